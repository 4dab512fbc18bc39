/- append goes as it is evaluated. -/
import Derived.Test.YtjaeanhgcijfoaaGreatDoorCxApp
set_option linter.unusedSimpArgs false
set_option linter.unusedVariables false
namespace Go.Cx
open Go.RowKit

section
variable {β : Type} {P : Program} {ro : Nat} {w0 w w' : World} {g0 g g' : G} {o : Oper} {a : Act} {st : St} {K : St → AV → Option β} {x : β} {C : Caller} {objs : List AObj}

theorem RepA.own_inv {v : Value} {sz xs} (h : RepA w g v (.own sz xs)) : RepP w g.com v (.sl sz xs) := by cases h with | own _ _ _ h => exact h

/-- Who owns is another: none of the places that there are. -/
def G.ren (g : G) (q q' : Nat × Nat) : G := { g with own := fun b => if g.own b = some q then some q' else g.own b }

theorem OwnAt.ren {q q' : Nat × Nat} {v : Value} {y : AV} (h : OwnAt w g q v y) : OwnAt w (g.ren q q') q' v y := by
  intro sz xs hx
  obtain ⟨a, n, c, rfl, hc | ⟨b, cs, e, ha, hb, hr⟩⟩ := h sz xs hx
  · exact ⟨a, n, c, rfl, .inl hc⟩
  · exact ⟨a, n, c, rfl, .inr ⟨b, cs, e, ha, if_pos hb, hr⟩⟩

theorem RS.rename (h : RS ro w0 g0 a w st g) (n : Nat) (hn : st.env.length ≤ n) (q' : Nat × Nat) : RS ro w0 g0 a w st (g.ren (0, n) q') := by
  have hold : ∀ p, p ≠ (0, n) → Hold w g w (g.ren (0, n) q') p := by
    intro p hp b hb
    refine ⟨?_, rfl, rfl⟩
    show (if g.own b = some (0, n) then some q' else g.own b) = some p
    rw [if_neg (by rw [hb]; simpa using hp)]
    exact hb
  have hback : ∀ b p, (g.ren (0, n) q').own b = some p → ∃ p', g.own b = some p' := by
    intro b p hp
    by_cases hb : g.own b = some (0, n)
    · exact ⟨_, hb⟩
    · have hp : (if g.own b = some (0, n) then some q' else g.own b) = some p := hp
      rw [if_neg hb] at hp; exact ⟨p, hp⟩
  have hf : Fr ro w g w (g.ren (0, n) q') := ⟨rfl, rfl, rfl, Nat.le_refl _, fun _ _ _ => rfl, Keeps.refl _ _, fun _ _ _ => rfl, fun _ _ h => h, fun _ _ h => .inl h,
    fun b p hp => by obtain ⟨p', hp'⟩ := hback b p hp; exact .inr (.inr ⟨p', hp'⟩)⟩
  refine h.step (objs := st.objs) hf ⟨h.wf.dom, fun o ob hob => ?_, h.wf.inj, h.wf.fresh, h.wf.comobj, fun b p hp => ?_, fun o b p ho hp => ?_⟩ (fun t ht => hold _ (by simp; omega))
  · obtain ⟨b, hb, hr⟩ := h.wf.rep o ob hob
    exact ⟨b, hb, hr.step (g' := g.ren (0, n) q') (Keeps.refl _ _) (fun _ _ h => h) rfl (fun j => hold _ (by simp))⟩
  · obtain ⟨p', hp'⟩ := hback b p hp; exact h.wf.ownlt b p' hp'
  · obtain ⟨p', hp'⟩ := hback b p hp; exact h.wf.ownobj o b p' ho hp'

/-- A new owner of a block that nobody owned. -/
def G.give (g : G) (b : Nat) (q : Nat × Nat) : G := { g with own := fun b' => if b' = b then some q else g.own b' }

theorem RS.give (h : RS ro w0 g0 a w st g) {b : Nat} (hb : g.own b = none) (hlt : b < w.heap.size) (hobj : ∀ o, g.obj o ≠ some b) (hB : w0.heap.size ≤ b) (q : Nat × Nat) : RS ro w0 g0 a w st (g.give b q) := by
  have hown : ∀ b', b' ≠ b → (g.give b q).own b' = g.own b' := fun b' hn => if_neg hn
  have hold : ∀ p, Hold w g w (g.give b q) p := by
    intro p b' hp
    have hne : b' ≠ b := by intro h1; subst h1; rw [hb] at hp; cases hp
    exact ⟨by rw [hown b' hne]; exact hp, rfl, rfl⟩
  refine ⟨h.defers, h.env.step (g' := g.give b q) (Keeps.refl _ _) (fun _ _ h => h) (fun t _ => hold _), ⟨h.wf.dom, fun o ob hob => ?_, h.wf.inj, h.wf.fresh, h.wf.comobj, fun b' p hp => ?_, fun o b' p ho hp => ?_⟩,
    ⟨h.fr.os, h.fr.tape, h.fr.output, h.fr.size, h.fr.blk, h.fr.keeps, h.fr.com, h.fr.obj, h.fr.objn, fun b' p hp => ?_⟩⟩
  · obtain ⟨b', hb', hr⟩ := h.wf.rep o ob hob
    exact ⟨b', hb', hr.step (g' := g.give b q) (Keeps.refl _ _) (fun _ _ h => h) rfl (fun j => hold _)⟩
  · by_cases hn : b' = b
    · subst hn; exact hlt
    · rw [hown b' hn] at hp; exact h.wf.ownlt b' p hp
  · by_cases hn : b' = b
    · subst hn; exact hobj o ho
    · rw [hown b' hn] at hp; exact h.wf.ownobj o b' p ho hp
  · by_cases hn : b' = b
    · subst hn; exact .inl hB
    · rw [hown b' hn] at hp; exact h.fr.own b' p hp

/-- Another world with the same memory. -/
theorem RS.sameHeap (h : RS ro w0 g0 a w st g) (hh : w'.heap = w.heap) (h1 : w'.os = w.os) (h2 : w'.tape = w.tape) (h3 : w'.output = w.output) : RS ro w0 g0 a w' st g := by
  have hk : Keeps w g.com w' g.com := ⟨fun _ => Nat.le_refl _, fun b o _ => by simp only [World.cell?, hh]⟩
  have hold : ∀ p, Hold w g w' g p := fun p b hb => ⟨hb, rfl, by rw [hh]⟩
  refine h.step (objs := st.objs) ⟨h1, h2, h3, by rw [hh]; exact Nat.le_refl _, fun _ _ _ => by rw [hh], hk, fun _ _ _ => rfl, fun _ _ h => h, fun _ _ h => .inl h, fun b p hp => .inr (.inr ⟨p, hp⟩)⟩
    ⟨h.wf.dom, fun o ob hob => ?_, h.wf.inj, fun b hb => h.wf.fresh b (by rw [← hh]; exact hb), h.wf.comobj, fun b p hp => by rw [hh]; exact h.wf.ownlt b p hp, h.wf.ownobj⟩ (fun t _ => hold _)
  obtain ⟨b, hb, hr⟩ := h.wf.rep o ob hob
  exact ⟨b, hb, hr.step hk (fun _ _ h => h) (by rw [hh]) (fun j => hold _)⟩

theorem RS.row (h : RS ro w0 g0 a w st g) (ob : Obj) (n : Nat) : RS ro w0 g0 a (w.alloc ob) st (g.row w.heap.size n) :=
  h.step (objs := st.objs) (fr_row h.wf ob n) (h.wf.alloc_row ob n) (fun t _ => hold_alloc (g' := g.row w.heap.size n) h.wf ob rfl (fun b hb => if_neg hb) _)

/-- An owned row is written behind its end. -/
theorem RS.extend (h : RS ro w0 g0 a w st g) {b k n : Nat} (hk : st.env.length ≤ k) (hown : g.own b = some (0, k)) (hle : g.com b ≤ n) (hw : OneBlock w w' b)
    (hcell : ∀ j, j < g.com b → w'.cell? ⟨b, j, none⟩ = w.cell? ⟨b, j, none⟩) : RS ro w0 g0 a w' st (g.row b n) := by
  have hcom : ∀ b', b' ≠ b → (g.row b n).com b' = g.com b' := fun b' hn => if_neg hn
  have hcomb : (g.row b n).com b = n := if_pos rfl
  have hkp : Keeps w g.com w' (g.row b n).com := by
    refine ⟨fun b' => ?_, fun b' j hj => ?_⟩
    · by_cases hn : b' = b
      · subst hn; rw [hcomb]; exact hle
      · rw [hcom b' hn]; exact Nat.le_refl _
    · by_cases hn : b' = b
      · subst hn; exact hcell j hj
      · simp only [World.cell?, hw.other b' hn]
  have hold : ∀ p, p ≠ (0, k) → Hold w g w' (g.row b n) p := by
    intro p hp b' hb'
    have hn : b' ≠ b := by intro h1; subst h1; rw [hown] at hb'; exact hp (Option.some.inj hb').symm
    exact ⟨hb', hcom b' hn, hw.other b' hn⟩
  have hf : Fr ro w g w' (g.row b n) := by
    have hWr : Wr ro g b := .inr ⟨_, hown⟩
    refine ⟨hw.os, hw.tape, hw.output, by rw [hw.size]; exact Nat.le_refl _, fun b' _ hn => hw.other b' (fun h1 => hn (h1 ▸ hWr)), hkp, fun b' _ hn => hcom b' (fun h1 => hn (h1 ▸ hWr)), fun _ _ h => h, fun _ _ h => .inl h, fun b' p hp => .inr (.inr ⟨p, hp⟩)⟩
  have hne : ∀ o b', g.obj o = some b' → b' ≠ b := by intro o b' ho h1; subst h1; exact h.wf.ownobj o b' _ ho hown
  refine h.step (objs := st.objs) hf ⟨h.wf.dom, fun o ob hob => ?_, h.wf.inj, fun b' hb' => ?_, fun o b' ho => ?_, fun b' p hp => by rw [hw.size]; exact h.wf.ownlt b' p hp, h.wf.ownobj⟩ (fun t ht => hold _ (by simp; omega))
  · obtain ⟨b', hb', hr⟩ := h.wf.rep o ob hob
    exact ⟨b', hb', hr.step (g' := g.row b n) hkp (fun _ _ h => h) (hw.other b' (hne o b' hb')) (fun j => hold _ (by simp))⟩
  · rw [hw.size] at hb'
    have := h.wf.ownlt b _ hown
    rw [hcom b' (by omega)]
    exact h.wf.fresh b' hb'
  · rw [hcom b' (hne o b' ho)]
    exact h.wf.comobj o b' ho

theorem snd_append {t u e : TypeId} {d : TypeDesc} {c : Call} {y z : Operand} {ay az : AO} {zs : List PV} (hop : o.op = .call c) (hcb : c.callee = .builtin .append) (hca : c.args.toList = [y, z]) (hct : c.argTypes.toList = [t, u])
    (ht : P.underlying t = some (.slice e)) (hu : P.underlying u = some d) (hd : ∀ k, d ≠ .int k) (hsz : 0 < P.cellsOf e) (hby : 0 < P.bytesOf e) (hzs : zeroPV P e = some zs)
    (hy : trO P t y = some ay) (hz : trO P u z = some az)
    (he : evOp C ro (.append (P.cellsOf e) (P.bytesOf e) ay az) st K = some x) (hs : RS ro w0 g0 a w st g) : Sound1 P ro w0 g0 o a w K x := by
  have ry := trO_rep hy hs.env
  have rz := (trO_rep hz hs.env).view
  have e1 : c.args = #[y, z] := by rw [← Array.toArray_toList (xs := c.args), hca]
  have e2 : c.argTypes = #[t, u] := by rw [← Array.toArray_toList (xs := c.argTypes), hct]
  obtain ⟨i, zv, l, hi, hz0, hl, hpv, hllen⟩ := zeroPV_inv hzs
  have hcells : P.cellsOf e = i.size := by simp [Program.cellsOf, hi]
  have hbytes : P.bytesOf e = i.bytes := by simp [Program.bytesOf, hi]
  have hzsize : zv.cells.size = i.size := by
    obtain ⟨h1, h2, _⟩ := pvCells_rep (w := w) (com := g.com) hpv
    rw [← hcells, ← hllen, h2, ← h1]; simp
  rw [hcells] at hsz
  rw [hbytes] at hby
  rw [hcells, hbytes] at he
  have hex : (execOp a.eval o).run P w = ((Builtin.append_ #[t, u] o.type #[a.eval y, a.eval z]).run P w).andThen fun v w => .ok (.value v) w := by
    simp [execOp, hop, resolve, hcb, e1, e2, invoke, builtin]
  simp only [evOp] at he
  split at he
  case h_2 => cases he
  rename_i sz xs hp
  obtain ⟨hsz', he2⟩ := cond_some_none he
  clear he
  have hsz' : sz = i.size := Nat.eq_of_beq_eq_true hsz'
  subst hsz'
  -- what is appended
  have hsrc : ∃ m news ys, K (st.drop ay) (.own i.size (xs ++ ys)) = some x ∧ Source P w g.com i.size m (a.eval z) news ys ∧ (xs.length + m) * i.bytes ≤ 140737488355328 := by
    split at he2
    · rename_i sz2 ys hq
      rw [hq] at rz
      obtain ⟨hc, he⟩ := cond_some_none he2
      clear he2
      simp only [Bool.and_eq_true] at hc
      have h2 : sz2 = i.size := Nat.eq_of_beq_eq_true hc.1
      rw [h2] at rz
      obtain ⟨m, news, hm, hsrc⟩ := Source.of_sl (P := P) rz.pv_inv hsz
      exact ⟨m, news, ys, he, hsrc, by rw [hm]; exact Nat.le_of_ble_eq_true hc.2⟩
    · rename_i s hq
      rw [hq] at rz
      obtain ⟨hc, he⟩ := cond_some_none he2
      clear he2
      simp only [Bool.and_eq_true] at hc
      have h2 : 1 = i.size := Nat.eq_of_beq_eq_true hc.1
      rw [rz.str_inv]
      rw [← h2]
      exact ⟨s.size, _, _, by rw [h2]; exact he, Source.of_str s, Nat.le_of_ble_eq_true hc.2⟩
    · cases he2
  obtain ⟨m, news, ys, he, hsrc, hbound⟩ := hsrc
  have hpp : st.get ay = .own i.size xs ∨ (st.get ay = .nil i.size ∧ xs = []) := by
    cases hg : st.get ay <;> rw [hg] at hp <;> simp [AV.grow] at hp
    · exact .inl (by rw [hp.1, hp.2])
    · exact .inr ⟨by rw [hp.1], hp.2⟩
  have hrep : RepP w g.com (a.eval y) (.sl i.size xs) := by
    rcases hpp with hq | ⟨hq, hx⟩
    · rw [hq] at ry; exact ry.own_inv
    · rw [hq] at ry; rw [hx]; exact ry.view.pv_inv
  -- the operand gives up what it owns
  have hgive : ∃ g1, g1.com = g.com ∧ g1.obj = g.obj ∧ RS ro w0 g0 a w (st.drop ay) g1 ∧ OwnAt w g1 (0, st.env.length) (a.eval y) (.own i.size xs) := by
    cases y with
    | tmp k =>
      simp [trO] at hy; subst hy
      obtain ⟨g', hc', ho', hrs, hw⟩ := hs.transfer k (0, st.env.length)
      rcases hpp with hq | ⟨hq, hx⟩
      · have hp' : st.env.getD k .any = .own i.size xs := hq
        have := (hs.env.get k).2
        rw [hp'] at this
        exact ⟨g', hc', ho', hrs, hw _ _ this⟩
      · refine ⟨g', hc', ho', hrs, fun sz' xs' he => ?_⟩
        cases he
        rw [hq] at ry
        cases hv : a.eval (.tmp k) <;> rw [hv] at ry <;> cases ry
        exact ⟨none, 0, 0, rfl, .inl rfl⟩
    | const v =>
      obtain ⟨q, hcq, rfl⟩ := Option.map_eq_some_iff.1 hy
      rcases hpp with hq | ⟨hq, hx⟩
      · have hp' : q = .own i.size xs := hq
        subst hp'
        exact ⟨g, rfl, rfl, hs, (constAV_rep hcq w g).2 _⟩
      · refine ⟨g, rfl, rfl, hs, fun sz' xs' he => ?_⟩
        cases he
        rw [hq] at ry
        cases hv : a.eval (.const v) <;> rw [hv] at ry <;> cases ry
        exact ⟨none, 0, 0, rfl, .inl rfl⟩
    | global _ => simp [trO] at hy
    | func f => simp [trO] at hy; subst hy; simp [St.get, AV.grow] at hp
  clear hp hpp
  obtain ⟨g1, hc1, ho1, hrs, hown⟩ := hgive
  have hlen : (st.drop ay).env.length = st.env.length := by cases ay <;> simp [St.drop]
  rw [← hc1] at hrep hsrc
  obtain ⟨A, n, cp, hv, hcase⟩ := hown _ _ rfl
  rw [hv] at hrep hex hown
  obtain ⟨olds, hxn, holen, hoone, hosz, horep, hofirst, hocell⟩ := hrep.sl_own (P := P) hsz
  have hncp : n ≤ cp := by obtain ⟨A', c', h1, h2, _⟩ := hrep.sl_inv; injection h1 with _ e3 e4; omega
  rw [hxn] at hbound
  by_cases hm0 : m = 0
  · -- nothing is appended
    subst hm0
    have hys : ys = [] := List.eq_nil_of_length_eq_zero hsrc.ylen
    subst hys
    rw [List.append_nil] at he
    have hrun : (execOp a.eval o).run P w = .ok (.value (.slice A n cp)) w := by rw [hex, app_same ht hu hd hi hsrc hncp]; rfl
    cases hdst : o.dst with
    | none => exact sound_ok hrun he hrs (.own _ _ _ hrep) (fun k hk => by rw [hdst] at hk; cases hk)
    | some k =>
      refine sound_ok hrun he (hrs.rename st.env.length (by rw [hlen]; exact Nat.le_refl _) (0, k)) (.own _ _ _ hrep) (fun k' hk => ?_)
      rw [hdst] at hk; cases hk
      exact hown.ren
  · by_cases hroom : n + m ≤ cp
    · -- in its own room
      rcases hcase with hc0 | ⟨b, cs, e', hA, hob, hcomb, hblk, hfit, _⟩
      · omega
      · subst hA
        have hrun := app_room (ty := o.type) ht hu hd hi hsrc hblk hroom hfit
        have hsp : n * i.size + news.length ≤ cs.toList.length := by
          rw [hsrc.nlen, ← Nat.add_mul]
          exact Nat.le_trans (Nat.mul_le_mul_right _ hroom) (by simpa using hfit)
        have hone := oneBlock_setRow w b (cs.toList.take (n * i.size) ++ news ++ cs.toList.drop (n * i.size + news.length)).toArray
        have hheap := setRow_heap w b cs (cs.toList.take (n * i.size) ++ news ++ cs.toList.drop (n * i.size + news.length)).toArray e' (0, 0) hblk
        have hget : ∀ (j : Nat) (v : Value), cs[j]? = some v → j < n * i.size → (cs.toList.take (n * i.size) ++ news ++ cs.toList.drop (n * i.size + news.length)).toArray[j]? = some v := by
          intro j v hj hlt
          have h1 : (cs.toList.take (n * i.size)).length = n * i.size := by rw [List.length_take]; omega
          simp only [List.getElem?_toArray, List.append_assoc]
          rw [List.getElem?_append_left (by omega), List.getElem?_take, if_pos hlt]
          simpa using hj
        have hget2 : ∀ (j : Nat) (v : Value), news[j]? = some v → (cs.toList.take (n * i.size) ++ news ++ cs.toList.drop (n * i.size + news.length)).toArray[n * i.size + j]? = some v := by
          intro j v hj
          have h1 : (cs.toList.take (n * i.size)).length = n * i.size := by rw [List.length_take]; omega
          have h2 : j < news.length := (List.getElem?_eq_some_iff.1 hj).1
          simp only [List.getElem?_toArray, List.append_assoc]
          rw [List.getElem?_append_right (by omega), h1, List.getElem?_append_left (by omega), Nat.add_sub_cancel_left]
          exact hj
        have hcsj : ∀ (j : Nat) (v : Value), olds[j]? = some v → cs[j]? = some v := by
          intro j v hj
          have := hocell b rfl j v hj
          rwa [cell_of_heap hblk] at this
        have hrs2 := hrs.extend (w' := w.setRow b (cs.toList.take (n * i.size) ++ news ++ cs.toList.drop (n * i.size + news.length)).toArray) (k := st.env.length) (n := (n + m) * i.size) (by rw [hlen]; exact Nat.le_refl _) hob
          (by rw [hcomb]; exact Nat.mul_le_mul_right _ (by omega)) hone (fun j hj => by
            rw [hcomb] at hj
            rw [cell_of_heap hheap, cell_of_heap hblk]
            have hj2 : j < cs.size := by simp at hsp; omega
            rw [hget j cs[j] (by simp [hj2]) hj]
            simp [hj2])
        have hk2 : Keeps w g1.com (w.setRow b (cs.toList.take (n * i.size) ++ news ++ cs.toList.drop (n * i.size + news.length)).toArray) (g1.row b ((n + m) * i.size)).com := by
          refine ⟨fun b' => ?_, fun b' j hj => ?_⟩
          · by_cases hn : b' = b
            · subst hn; rw [hcomb]; show _ ≤ (if b' = b' then _ else _); rw [if_pos rfl]; exact Nat.mul_le_mul_right _ (by omega)
            · show _ ≤ (if b' = b then _ else _); rw [if_neg hn]; exact Nat.le_refl _
          · by_cases hn : b' = b
            · subst hn
              rw [hcomb] at hj
              rw [cell_of_heap hheap, cell_of_heap hblk]
              have hj2 : j < cs.size := by simp at hsp; omega
              rw [hget j cs[j] (by simp [hj2]) hj]
              simp [hj2]
            · simp only [World.cell?, hone.other b' hn]
        have hfin : RepP (w.setRow b (cs.toList.take (n * i.size) ++ news ++ cs.toList.drop (n * i.size + news.length)).toArray) (g1.row b ((n + m) * i.size)).com (.slice (some ⟨b, 0, none⟩) (n + m) cp) (.sl i.size (xs ++ ys)) := by
          refine rep_joined hheap hxn hsrc.ylen hosz hsrc.ysz (by show _ ≤ (if b = b then _ else _); rw [if_pos rfl]; exact Nat.le_refl _) hroom ?_ (fun k v hk hv => ?_) (fun i' j x p hx hp => ?_) (fun i' j x p hx hp => ?_)
          · simp only [List.size_toArray]; rw [splice_len hsp]; simp; exact Nat.le_trans (Nat.mul_le_mul_right _ hroom) hfit
          · by_cases hlt : k < n * i.size
            · have hk2 : k < olds.length := by rw [holen]; exact hlt
              have := hget k olds[k] (hcsj k _ (by simp [hk2])) hlt
              rw [this] at hv; cases hv
              exact hoone _ (List.getElem_mem _)
            · have hk2 : k - n * i.size < news.length := by rw [hsrc.nlen]; rw [Nat.add_mul] at hk; omega
              have := hget2 (k - n * i.size) news[k - n * i.size] (by simp [hk2])
              rw [show n * i.size + (k - n * i.size) = k from by omega] at this
              rw [this] at hv; cases hv
              exact hsrc.one _ (List.getElem_mem _)
          · obtain ⟨v, hv, hr⟩ := horep i' j x p hx hp
            have hi' : i' < n := by have := (List.getElem?_eq_some_iff.1 hx).1; omega
            have hj' : j < i.size := by have := (List.getElem?_eq_some_iff.1 hp).1; rw [hosz i' x hx] at this; exact this
            exact ⟨v, hget _ v (hcsj _ v hv) (idx_lt hi' hj'), hr.mono hk2⟩
          · obtain ⟨v, hv, hr⟩ := hsrc.rep i' j x p hx hp
            exact ⟨v, hget2 _ v hv, hr.mono hk2⟩
        have hfitsz : (cs.toList.take (n * i.size) ++ news ++ cs.toList.drop (n * i.size + news.length)).toArray.size = cs.size := by
          simp only [List.size_toArray]; rw [splice_len hsp]; simp
        have hoOK : OwnAt (w.setRow b (cs.toList.take (n * i.size) ++ news ++ cs.toList.drop (n * i.size + news.length)).toArray) (g1.row b ((n + m) * i.size)) (0, st.env.length) (.slice (some ⟨b, 0, none⟩) (n + m) cp) (.own i.size (xs ++ ys)) := by
          intro sz xs' h'
          cases h'
          exact ⟨_, _, _, rfl, .inr ⟨b, _, e', rfl, hob, by show (if b = b then _ else _) = _; rw [if_pos rfl], hheap, by rw [hfitsz]; exact hfit, hroom⟩⟩
        have hrun' : (execOp a.eval o).run P w = .ok (.value (.slice (some ⟨b, 0, none⟩) (n + m) cp)) (w.setRow b (cs.toList.take (n * i.size) ++ news ++ cs.toList.drop (n * i.size + news.length)).toArray) := by rw [hex, hrun]; rfl
        cases hdst : o.dst with
        | none => exact sound_ok hrun' he hrs2 (.own _ _ _ hfin) (fun k hk => by rw [hdst] at hk; cases hk)
        | some k =>
          refine sound_ok hrun' he (hrs2.rename st.env.length (by rw [hlen]; exact Nat.le_refl _) (0, k)) (.own _ _ _ hfin) (fun k' hk => ?_)
          rw [hdst] at hk; cases hk
          exact hoOK.ren
    · -- in a new block
      have hgc : n + m ≤ grownCap w (n + m) cp e := grownCap_ge w _ _ _
      have hrun := app_grow (ty := o.type) ht hu hd hi hz0 hsrc hofirst (by omega) hbound hby
      have hrsd := hrs.sameHeap (w' := w.drew) rfl rfl rfl rfl
      have hrs2 := hrsd.row (.cells (olds.toArray ++ news.toArray ++ Builtin.zeroCells zv.cells (grownCap w (n + m) cp e - (n + m))) e) ((n + m) * i.size)
      have hheap : (w.drew.alloc (.cells (olds.toArray ++ news.toArray ++ Builtin.zeroCells zv.cells (grownCap w (n + m) cp e - (n + m))) e)).heap[w.heap.size]? = some (.cells (olds.toArray ++ news.toArray ++ Builtin.zeroCells zv.cells (grownCap w (n + m) cp e - (n + m))) e (0, 0)) := heap_alloc_new w.drew _
      have hk2 := hrsd.wf.keeps_alloc (.cells (olds.toArray ++ news.toArray ++ Builtin.zeroCells zv.cells (grownCap w (n + m) cp e - (n + m))) e) (c' := (g1.row w.heap.size ((n + m) * i.size)).com) (fun b hb => if_neg hb)
      have hkd : Keeps w g1.com w.drew g1.com := ⟨fun _ => Nat.le_refl _, fun _ _ _ => rfl⟩
      have hget : ∀ (j : Nat) (v : Value), olds[j]? = some v → (olds.toArray ++ news.toArray ++ Builtin.zeroCells zv.cells (grownCap w (n + m) cp e - (n + m)))[j]? = some v := by
        intro j v hj
        have h1 : j < olds.length := (List.getElem?_eq_some_iff.1 hj).1
        rw [Array.append_assoc, Array.getElem?_append_left (by simpa using h1)]
        simpa using hj
      have hget2 : ∀ (j : Nat) (v : Value), news[j]? = some v → (olds.toArray ++ news.toArray ++ Builtin.zeroCells zv.cells (grownCap w (n + m) cp e - (n + m)))[n * i.size + j]? = some v := by
        intro j v hj
        have h1 : j < news.length := (List.getElem?_eq_some_iff.1 hj).1
        rw [Array.append_assoc, Array.getElem?_append_right (by simp [holen]), Array.getElem?_append_left (by simp [holen]; exact h1)]
        simp [holen]; exact hj
      have hsize := grownBlock_len (olds := olds) (news := news) (zc := zv.cells) (k := grownCap w (n + m) cp e - (n + m))
      have hcapfit : grownCap w (n + m) cp e * i.size ≤ (olds.toArray ++ news.toArray ++ Builtin.zeroCells zv.cells (grownCap w (n + m) cp e - (n + m))).size := by
        rw [hsize, holen, hsrc.nlen, hzsize, ← Nat.add_mul, ← Nat.add_mul]
        exact Nat.mul_le_mul_right _ (by omega)
      have hfin : RepP (w.drew.alloc (.cells (olds.toArray ++ news.toArray ++ Builtin.zeroCells zv.cells (grownCap w (n + m) cp e - (n + m))) e)) (g1.row w.heap.size ((n + m) * i.size)).com (.slice (some ⟨w.heap.size, 0, none⟩) (n + m) (grownCap w (n + m) cp e)) (.sl i.size (xs ++ ys)) := by
        refine rep_joined hheap hxn hsrc.ylen hosz hsrc.ysz (by show _ ≤ (if w.heap.size = w.heap.size then _ else _); rw [if_pos rfl]; exact Nat.le_refl _) hgc (Nat.le_trans (Nat.mul_le_mul_right _ hgc) hcapfit) (fun k v hk hv => ?_) (fun i' j x p hx hp => ?_) (fun i' j x p hx hp => ?_)
        · by_cases hlt : k < n * i.size
          · have hk2 : k < olds.length := by rw [holen]; exact hlt
            have := hget k olds[k] (by simp [hk2])
            rw [this] at hv; cases hv
            exact hoone _ (List.getElem_mem _)
          · have hk2 : k - n * i.size < news.length := by rw [hsrc.nlen]; rw [Nat.add_mul] at hk; omega
            have := hget2 (k - n * i.size) news[k - n * i.size] (by simp [hk2])
            rw [show n * i.size + (k - n * i.size) = k from by omega] at this
            rw [this] at hv; cases hv
            exact hsrc.one _ (List.getElem_mem _)
        · obtain ⟨v, hv, hr⟩ := horep i' j x p hx hp
          exact ⟨v, hget _ v hv, (hr.mono hkd).mono hk2⟩
        · obtain ⟨v, hv, hr⟩ := hsrc.rep i' j x p hx hp
          exact ⟨v, hget2 _ v hv, (hr.mono hkd).mono hk2⟩
      have hrun' : (execOp a.eval o).run P w = .ok (.value (.slice (some ⟨w.heap.size, 0, none⟩) (n + m) (grownCap w (n + m) cp e))) (w.drew.alloc (.cells (olds.toArray ++ news.toArray ++ Builtin.zeroCells zv.cells (grownCap w (n + m) cp e - (n + m))) e)) := by rw [hex, hrun]; rfl
      cases hdst : o.dst with
      | none => exact sound_ok hrun' he hrs2 (.own _ _ _ hfin) (fun k hk => by rw [hdst] at hk; cases hk)
      | some k =>
        have hnone : (g1.row w.heap.size ((n + m) * i.size)).own w.heap.size = none := by
          cases hq : g1.own w.heap.size with
          | none => exact hq
          | some p => have := hrs.wf.ownlt _ _ hq; omega
        have hnobj : ∀ o, (g1.row w.heap.size ((n + m) * i.size)).obj o ≠ some w.heap.size := by
          intro o ho
          have := hrs.wf.block_lt ho
          omega
        refine sound_ok hrun' he (hrs2.give (b := w.heap.size) hnone (by simp) hnobj hrs.fr.size (0, k)) (.own _ _ _ hfin) (fun k' hk => ?_)
        rw [hdst] at hk; cases hk
        intro sz xs' h'
        cases h'
        exact ⟨_, _, _, rfl, .inr ⟨w.heap.size, _, e, rfl, if_pos rfl, by show (if w.heap.size = w.heap.size then _ else _) = _; rw [if_pos rfl], hheap, hcapfit, hgc⟩⟩
end
end Go.Cx
