/- A region whose order is drawn, whose last four append an element and write it. -/
import Derived.Test.YtjaeanhgcijfoaaGreatDoorCxGrow2
set_option linter.unusedVariables false
set_option linter.unusedSimpArgs false
namespace Go.Cx
open Go.RowKit
section
variable {β : Type} {P : Program} {cr : Option FuncId → Option CR} {Gl : World → Prop} {B0 ro : Nat} {w0 w w' : World} {g0 g g' : G} {o : Oper} {a : Act} {st : St} {x : β} {C : Caller} {arr : Array Oper} {k : Nat}

theorem isTmp_t {x : Operand} {d : Nat} (h : isTmp x d = true) : x = .tmp d := by
  unfold isTmp at h
  split at h
  · rw [Nat.eq_of_beq_eq_true h]
  · cases h
theorem isTmp_f {x : Operand} {d : Nat} (h : isTmp x d = false) : x ≠ .tmp d := by
  rintro rfl
  simp [isTmp] at h
theorem eval_put_d {a : Act} {d : Nat} {v : Value} (h : d < a.tmps.size) : (a.put (some d) v).eval (.tmp d) = v := by
  simp [Act.put, Act.eval, h]

theorem snd_tail (cx : Ctx P Gl B0 C w0 g0) (ht : TailK arr k) {o6 o7 o8 o9 : Oper} (h6 : arr[k]? = some o6) (h7 : arr[k + 1]? = some o7) (h8 : arr[k + 2]? = some o8) (h9 : arr[k + 3]? = some o9)
    (g6 : o6.guard = none) (g7 : o7.guard = none) (g8 : o8.guard = none) (g9 : o9.guard = none) {d tt : Nat} (d6 : o6.dst = some d) (d7 : o7.dst = some tt) (d8 : o8.dst = none) (d9 : o9.dst = none)
    {c : Call} {t u t7 te t9 : TypeId} {y z x7 x8 y9 : Operand} {al az ai av ap : AO} {zs : List PV}
    (hop6 : o6.op = .call c) (hcb : c.callee = .builtin .append) (hca : c.args.toList = [y, z]) (hct : c.argTypes.toList = [t, u]) (hop7 : o7.op = .indexAddr t7 (.tmp d) x7) (hop8 : o8.op = .store te (.tmp tt) x8) (hop9 : o9.op = .store t9 y9 (.tmp d))
    (htt : P.underlying t = some (.slice te)) (hut : P.underlying u = some (.slice te)) (h7t : P.underlying t7 = some (.slice te)) (hsz : 0 < P.cellsOf te) (hby : 0 < P.bytesOf te) (hzs : zeroPV P te = some zs) (hi9 : (P.info? t9).isSome = true) (hc9 : P.cellsOf t9 = 1)
    (hy : trO P t y = some al) (hz : trO P u z = some az) (hx7 : trO' P x7 = some ai) (hx8 : trO P te x8 = some av) (hy9 : trO' P y9 = some ap)
    (hdt : d ≠ tt) (n7 : x7 ≠ .tmp d) (n8 : x8 ≠ .tmp d) (n8' : x8 ≠ .tmp tt) (n9 : y9 ≠ .tmp d) (n9' : y9 ≠ .tmp tt)
    {listed : Array Bool} (hl : ListedK arr k [] listed) {K : St → Option β} {Q : Exit → Act → World → Prop}
    (he : evGrow C ro (P.cellsOf te) (P.bytesOf te) al az ai av d tt ⟨none, .store none ap (.t d), none⟩ st K = some x) (hs : RS ro w0 g0 a w st g)
    (hK : ∀ st' a' w' g', K st' = some x → RS ro w0 g0 a' w' st' g' → Q .normal a' w') : wpAny P .any arr Q 4 listed a w := by
  have ry := trO_rep hy hs.env
  have rz := (trO_rep hz hs.env).view
  have r7v := trO_rep hx7 hs.env
  have r8v := (trO_rep hx8 hs.env).view
  have e1 : c.args = #[y, z] := by rw [← Array.toArray_toList (xs := c.args), hca]
  have e2 : c.argTypes = #[t, u] := by rw [← Array.toArray_toList (xs := c.argTypes), hct]
  obtain ⟨i, zv, l, hi, hz0, hll, hpv, hllen⟩ := zeroPV_inv hzs
  have hcells : P.cellsOf te = i.size := by simp [Program.cellsOf, hi]
  have hbytes : P.bytesOf te = i.bytes := by simp [Program.bytesOf, hi]
  have hzsize : zv.cells.size = i.size := by
    obtain ⟨h1, h2, _⟩ := pvCells_rep (w := w) (com := g.com) hpv
    rw [← hcells, ← hllen, h2, ← h1]; simp
  have hcte := hcells
  rw [hcells] at hsz
  rw [hbytes] at hby
  rw [hcells, hbytes] at he
  unfold evGrow at he
  split at he
  case h_2 => cases he
  rename_i sz' xs hp
  split at he
  case h_2 => cases he
  rename_i sz2 zy kk kn hq hk7
  obtain ⟨hc, hE⟩ := cond_some_none he
  clear he
  simp only [Bool.and_eq_true] at hc
  obtain ⟨⟨⟨⟨⟨⟨c1, c2⟩, c3⟩, c4⟩, c5⟩, c6⟩, c7⟩ := hc
  have c1 : sz' = i.size := Nat.eq_of_beq_eq_true c1
  have c2 : sz2 = i.size := Nat.eq_of_beq_eq_true c2
  have c3 : zy.length = 1 := Nat.eq_of_beq_eq_true c3
  have c4 : kn = (xs.length : Int) := eq_of_beq c4
  have c5 := Nat.le_of_ble_eq_true c5
  have c6 : d < st.env.length := Nat.le_of_ble_eq_true c6
  have c7 : tt < st.env.length := Nat.le_of_ble_eq_true c7
  subst c1
  rw [c2] at hq
  obtain ⟨row, he, hrl, hro1, hrr⟩ := elemCells_inv hE
  clear hE
  obtain ⟨hns, hnr⟩ := hrr _ _ _ r8v
  rw [hq] at rz
  rw [hk7] at r7v
  -- what is appended first
  obtain ⟨m0, news0, hm0, hsrc0⟩ := Source.of_sl (P := P) rz.pv_inv hsz
  rw [c3] at hm0
  subst hm0
  have hpp : st.get al = .own i.size xs ∨ (st.get al = .nil i.size ∧ xs = []) := by
    cases hg : st.get al <;> rw [hg] at hp <;> simp [AV.grow] at hp
    · exact .inl (by rw [hp.1, hp.2])
    · exact .inr ⟨by rw [hp.1], hp.2⟩
  have hrep : RepP w g.com (a.eval y) (.sl i.size xs) := by
    rcases hpp with hq | ⟨hq, hx⟩
    · rw [hq] at ry; exact ry.own_inv
    · rw [hq] at ry; rw [hx]; exact ry.view.pv_inv
  have hgive : ∃ g1, g1.com = g.com ∧ g1.obj = g.obj ∧ RS ro w0 g0 a w (st.drop al) g1 ∧ OwnAt w g1 (0, st.env.length) (a.eval y) (.own i.size xs) := by
    cases y with
    | tmp j =>
      simp [trO] at hy; subst hy
      obtain ⟨g', hc', ho', hrs, hw⟩ := hs.transfer j (0, st.env.length)
      rcases hpp with hq | ⟨hq, hx⟩
      · have hp' : st.env.getD j .any = .own i.size xs := hq
        have := (hs.env.get j).2
        rw [hp'] at this
        exact ⟨g', hc', ho', hrs, hw _ _ this⟩
      · refine ⟨g', hc', ho', hrs, fun sz' xs' he => ?_⟩
        cases he
        rw [hq] at ry
        cases hv : a.eval (.tmp j) <;> rw [hv] at ry <;> cases ry
        exact ⟨none, 0, 0, rfl, .inl rfl⟩
    | const v =>
      obtain ⟨q, hcq, rfl⟩ := Option.map_eq_some_iff.1 hy
      rcases hpp with hq | ⟨hq, hx⟩
      · have hp' : q = .own i.size xs := hq
        subst hp'
        exact ⟨g, rfl, rfl, hs, (constAV_rep hcq w g).2 _⟩
      · refine ⟨g, rfl, rfl, hs, fun sz' xs' he => ?_⟩
        cases he
        rw [hq] at ry
        cases hv : a.eval (.const v) <;> rw [hv] at ry <;> cases ry
        exact ⟨none, 0, 0, rfl, .inl rfl⟩
    | global _ => simp [trO] at hy
    | func f => simp [trO] at hy; subst hy; simp [St.get, AV.grow] at hp
  clear hp hpp
  obtain ⟨g1, hc1, ho1, hrs, hown⟩ := hgive
  have hlen : (st.drop al).env.length = st.env.length := by cases al <;> simp [St.drop]
  rw [← hc1] at hrep hsrc0
  obtain ⟨A, n, cp, hv, _⟩ := hown _ _ rfl
  rw [hv] at hrep hown
  have hsrc : Row1 w g1.com i.size 1 (a.eval x8).cells.toList [row] := by
    refine ⟨fun u hu => ?_, by simpa using hns, rfl, fun j q hq => ?_, fun j j' q p hq hp => ?_⟩
    · obtain ⟨j, hj, rfl⟩ := List.getElem_of_mem hu
      have hj' : j < row.length := by rw [hrl, ← hns]; simpa using hj
      exact hro1 row[j] (List.getElem_mem _) w g.com _ (hnr j _ _ (by simp) (by simp [hj']))
    · cases j with
      | zero => simp at hq; subst hq; exact hrl
      | succ j => simp at hq
    · cases j with
      | succ j => simp at hq
      | zero =>
        simp at hq; subst hq
        have hj' : j' < (a.eval x8).cells.size := by rw [hns, ← hrl]; exact (List.getElem?_eq_some_iff.1 hp).1
        exact ⟨(a.eval x8).cells[j'], by simp [hj'], by rw [hc1]; exact hnr j' _ _ (by simp [hj']) hp⟩
  have hxn0 : xs.length = n := by
    obtain ⟨olds, hxn, _⟩ := hrep.sl_own (P := P) hsz
    exact hxn
  rw [hxn0] at c5
  obtain ⟨b, c', e', w1, g', hrs1, hrep1, hown1, hxn, hnc, hnob, hgo, hkp, hrun⟩ := app_fx (P := P) (N := st.env.length) hsz hby hi hz0 hzsize hrs (by rw [hlen]; exact Nat.le_refl _) hrep hown hsrc (by omega) c5
  obtain ⟨w00, cs0, hr6, hheap0, hfit0, hold0, hset⟩ := hrun t u o6.type (.slice te) (a.eval z) news0 zy htt hut (fun _ h => by cases h) hsrc0
  -- the slots
  have hts : a.tmps.size = st.env.length := hs.env.1
  let sl : Value := .slice (some ⟨b, 0, none⟩) (n + 1) c'
  let ptr : Value := .pointer (some ⟨b, n * i.size, none⟩)
  let a1 := a.put (some d) sl
  let aF := a1.put (some tt) ptr
  have hts1 : a1.tmps.size = st.env.length := by show (a.put (some d) sl).tmps.size = _; simp [Act.put, hts]
  have ev1d : a1.eval (.tmp d) = sl := eval_put_d (by rw [hts]; exact c6)
  have evFt : aF.eval (.tmp tt) = ptr := eval_put_d (by rw [hts1]; exact c7)
  have evFd : aF.eval (.tmp d) = sl := by
    show (a1.put (some tt) ptr).eval (.tmp d) = sl
    rw [Act.eval_put (fun d' h => by cases h; intro h; cases h; exact hdt rfl), ev1d]
  have ev17 : a1.eval x7 = a.eval x7 := Act.eval_put (fun d' h => by cases h; exact n7)
  have evF8 : aF.eval x8 = a.eval x8 := by
    show (a1.put (some tt) ptr).eval x8 = _
    rw [Act.eval_put (fun d' h => by cases h; exact n8')]
    exact Act.eval_put (fun d' h => by cases h; exact n8)
  have ev19 : a1.eval y9 = a.eval y9 := Act.eval_put (fun d' h => by cases h; exact n9)
  have evF9 : aF.eval y9 = a.eval y9 := by
    show (a1.put (some tt) ptr).eval y9 = _
    rw [Act.eval_put (fun d' h => by cases h; exact n9'), ev19]
  -- the state behind the two
  have hrsF : RS ro w0 g0 aF w1 (((st.drop al).put (some d) (.own i.size (xs ++ [row]))).put (some tt) .any) (g'.ren (0, st.env.length) (0, d)) := by
    have h1 := hrs1.rename st.env.length (by rw [hlen]; exact Nat.le_refl _) (0, d)
    have h2 : RepA w1 (g'.ren (0, st.env.length) (0, d)) sl (.own i.size (xs ++ [row])) := .own _ _ _ hrep1.own_inv
    have h3 := h1.put (some d) h2 (fun j hj => by cases hj; exact hown1.ren)
    exact h3.put (some tt) (.any _) (fun j hj => notOwn (by simp))
  -- the store of the row
  have hst := snd_store (C := C) (o := o9) (a := aF) (x := x) (K := fun st v => K (st.put none v)) (n := none) hop9 (Option.isSome_iff_exists.1 hi9) (.inr ⟨rfl, hc9⟩) hy9 (show trO P t9 (.tmp d) = some (.t d) from rfl) he hrsF
    (fun a' w' => Q .normal a' w') Q (fun st' w' g'' hk hr => hK _ _ _ _ hk (by rw [d9]; exact hr))
  -- where it lies
  have hob : ∃ ob off co eo, a.eval y9 = .pointer (some ⟨ob, off, none⟩) ∧ (∃ o, g'.obj o = some ob) ∧ w1.heap[ob]? = some (.cells co eo (0, 0)) ∧ off + 1 ≤ co.size := by
    have ry9 := trO_rep hy9 hrsF.env
    have he' : evOp C ro (.store none ap (.t d)) (((st.drop al).put (some d) (.own i.size (xs ++ [row]))).put (some tt) .any) (fun st v => K (st.put none v)) = some x := he
    simp only [evOp] at he'
    split at he'
    case h_2 => cases he'
    rename_i io off hpp
    rw [hpp] at ry9
    obtain ⟨ob, hobb, hv9⟩ := ry9.ptr_inv
    split at he'
    case h_2 => cases he'
    rename_i cc hcc
    obtain ⟨vs, he', hcl⟩ := cellsOf_inv he'
    obtain ⟨he', _⟩ := ones_inv he'
    obtain ⟨hcnd, _⟩ := cond_some_none he'
    simp only [Bool.and_eq_true] at hcnd
    have hle := Nat.le_of_ble_eq_true hcnd.1
    have hv1 : vs.length = 1 := by
      rcases hcl with ⟨_, h, _⟩ | ⟨m, h, _⟩
      · rw [h]; rfl
      · cases h
    obtain ⟨b', hb', cs, e, k1, k2, _⟩ := hrsF.wf.rep io _ hcc
    rw [hobb] at hb'; cases hb'
    exact ⟨ob, off, cs, e, by rw [← evF9]; exact hv9, ⟨io, hobb⟩, k1, by omega⟩
  obtain ⟨ob, off, co, eo, hv9, ⟨io, hio⟩, hheapo, hoff⟩ := hob
  have hobne : ob ≠ b := by
    rintro rfl
    rw [hgo] at hio
    exact hnob io hio
  have hw1 : w1 = w00.setRow b (cs0.toList.take (n * i.size) ++ (a.eval x8).cells.toList ++ cs0.toList.drop (n * i.size + (a.eval x8).cells.toList.length)).toArray := hset.symm
  have hheapo0 : w00.heap[ob]? = some (.cells co eo (0, 0)) := by
    rw [hw1, (oneBlock_setRow w00 b _).other ob hobne] at hheapo
    exact hheapo
  have hone8 : ∀ u ∈ (a.eval x8).cells.toList, u.oneCell' = true := hsrc.one
  -- the runs
  have r6 : (execOp a.eval o6).run P w = .ok (.value sl) w00 := by
    have hex : (execOp a.eval o6).run P w = ((Builtin.append_ #[t, u] o6.type #[a.eval y, a.eval z]).run P w).andThen fun v w => .ok (.value v) w := by
      simp [execOp, hop6, resolve, hcb, e1, e2, invoke, builtin]
    rw [hex, hv, hr6]; rfl
  have r7 : ∀ W, (execOp a1.eval o7).run P W = .ok (.value ptr) W := by
    intro W
    have hcnd : (0 : Int) ≤ (n : Int) ∧ (n : Int) < ((n + 1 : Nat) : Int) := ⟨by omega, by omega⟩
    have hk : a1.eval x7 = .int kk (n : Int) := by rw [ev17, r7v.int_inv, c4, hxn]
    simp only [execOp, hop7, ev1d, hk, sl, Instr.indexAt, asIntOf, Sem.run_bind, run_underlying h7t, Result.andThen_ok, sizeOf, typeInfo, hi, run_program, Sem.run_pure, hcnd, and_self, if_true, Addr.add_lit, Int.toNat_natCast, Nat.zero_add, ptr]
  have r8 : ∀ (W : World), W.heap[b]? = some (.cells cs0 e' (0, 0)) → (execOp aF.eval o8).run P W = .ok .skip (W.setRow b (cs0.toList.take (n * i.size) ++ (a.eval x8).cells.toList ++ cs0.toList.drop (n * i.size + (a.eval x8).cells.toList.length)).toArray) := by
    intro W hW
    have := store_run (P := P) (o := o8) (ev := aF.eval) (w := W) hop8 ⟨i, hi⟩ evFt hW (by rw [evF8, hns, hcte]) (by rw [evF8]; simpa using hfit0) (by rw [evF8]; exact hone8)
    rw [evF8] at this
    exact this
  have r9 : ∀ (ac : Act) (W : World), ac.eval (.tmp d) = sl → ac.eval y9 = a.eval y9 → W.heap[ob]? = some (.cells co eo (0, 0)) → (execOp ac.eval o9).run P W = .ok .skip (W.setRow ob (co.toList.take off ++ [sl] ++ co.toList.drop (off + 1)).toArray) := by
    intro ac W h1 h2 hW
    have := store_run (P := P) (o := o9) (ev := ac.eval) (w := W) hop9 (Option.isSome_iff_exists.1 hi9) (h2.trans hv9) hW (by rw [h1, hc9]; rfl) (by rw [h1]; exact hoff) (by rw [h1]; intro u hu; simp [sl, Value.cells] at hu; subst hu; rfl)
    rw [h1] at this
    exact this
  have hbo : ∀ X, (w00.setRow ob X).heap[b]? = some (.cells cs0 e' (0, 0)) := fun X => by rw [(oneBlock_setRow w00 ob X).other b (Ne.symm hobne)]; exact hheap0
  refine tail_orders ht h6 h7 h8 h9 g6 g7 g8 g9 d6 d7 d8 d9 hl (sl := sl) (ptr := ptr) (w00 := w00) (w1 := w1) r6 r7 (by rw [hw1]; exact r8 w00 hheap0) (r9 aF w1 evFd evF9 hheapo) (r9 aF w00 evFd evF9 hheapo0) (r9 a1 w00 ev1d ev19 hheapo0) ?_ ?_
  · rw [hw1, setRow_comm w00 (Ne.symm hobne)]
    exact r8 _ (hbo _)
  · unfold Oper.wp at hst
    rw [r9 aF w1 evFd evF9 hheapo] at hst
    simp only [Oper.upon] at hst
    rw [d9] at hst
    exact hst
theorem hasEdgeAll {arr : Array Oper} {k : Nat} (h4 : 4 ≤ arr.size) (hk : k = arr.size - 4) (h : tailOK arr.toList k = true) : TailK arr k := by
  unfold tailOK at h
  simp only [Bool.and_eq_true] at h
  obtain ⟨⟨⟨⟨⟨⟨⟨h1, h2⟩, h3⟩, h4'⟩, b0⟩, b1⟩, b2⟩, b3⟩ := h
  refine ⟨by omega, fun j hj => List.all_eq_true.1 h1 j (by simpa using hj), h2, h3, h4', fun j hj1 hj2 => ?_⟩
  rcases (show j = k ∨ j = k + 1 ∨ j = k + 2 ∨ j = k + 3 by omega) with rfl | rfl | rfl | rfl
  · exact b0
  · exact b1
  · exact b2
  · exact b3

theorem snd_grow (cx : Ctx P Gl B0 C w0 g0) {id n : Nat} {ac : ACode} {K : AExit → St → Option β} {Q : Exit → Act → World → Prop} (htr : trGrow P cr arr.toList = some ac) (he : evC C ro n ac K st = some x) (hs : RS ro w0 g0 a w st g)
    (hK : ∀ st' a' w' g', K .normal st' = some x → RS ro w0 g0 a' w' st' g' → Q .normal a' w') : (Code.region id arr true).wp P Q a w := by
  unfold trGrow at htr
  split at htr
  case h_2 => cases htr
  rename_i ais hais
  simp only at htr
  split at htr
  case h_2 => cases htr
  rename_i items o6 o7 o8 o9 hitems h6 h7 h8 h9
  split at htr
  case isFalse => cases htr
  rename_i hc
  simp only [Bool.and_eq_true] at hc
  obtain ⟨⟨⟨⟨⟨⟨⟨⟨hm, hp⟩, hn⟩, hall⟩, hlt⟩, hlk⟩, hord⟩, h4⟩, htail⟩ := hc
  have h4 : 4 ≤ arr.size := by simpa using Nat.le_of_ble_eq_true h4
  have hlen : arr.toList.length = arr.size := by simp
  rw [hlen] at hitems h6 h7 h8 h9 hn hall hlt hord htail hlk
  have hlk := Nat.eq_of_beq_eq_true hlk
  have ht := hasEdgeAll h4 rfl htail
  obtain ⟨e1, e2⟩ := mkDs_inv hitems
  rw [Array.getElem?_toList] at h6 h7 h8 h9
  unfold trTail at htr
  split at htr
  case h_2 => cases htr
  rename_i c d t7 x x7 tt te x' x8 t9 y9 x9 hop6 d6 hop7 d7 hop8 hop9
  split at htr
  case h_2 => cases htr
  rename_i y z t u hcb hca hct
  split at htr
  case h_2 => cases htr
  rename_i e ee ee2 al az ai av ap u7 ut uu hy hz hx7 hx8 hy9
  split at htr
  case isFalse => cases htr
  rename_i hcc
  cases htr
  simp only [Bool.and_eq_true, Option.isNone_iff_eq_none] at hcc
  obtain ⟨⟨⟨⟨⟨⟨⟨⟨⟨⟨⟨⟨⟨⟨⟨⟨⟨⟨⟨⟨⟨⟨g6, g7⟩, g8⟩, g9⟩, d8⟩, d9⟩, t1⟩, t2⟩, t3⟩, k1⟩, k2⟩, k3⟩, k4⟩, k5⟩, k6⟩, k7⟩, k8⟩, k9⟩, n7⟩, n8⟩, n8'⟩, n9⟩, n9'⟩ := hcc
  rw [isTmp_t t1] at hop7
  rw [isTmp_t t2] at hop8
  rw [isTmp_t t3] at hop9
  rw [Nat.eq_of_beq_eq_true k2] at u7
  rw [Nat.eq_of_beq_eq_true k3] at ut
  rw [Nat.eq_of_beq_eq_true k4] at uu
  obtain ⟨zs, hzs⟩ := Option.isSome_iff_exists.1 k7
  simp only [Bool.not_eq_true'] at k1 n7 n8 n8' n9 n9'
  simp only [evC] at he
  refine wp_region_any hm ?_
  have hit : items.length = arr.size - 4 := by rw [← hlk, ← e1, List.length_map]
  have hsize : arr.size = items.length + 4 := by omega
  rw [hsize]
  refine any_soundK (cr := cr) cx ht (K := fun st => evGrow C ro (P.cellsOf te) (P.bytesOf te) al az ai av d tt ⟨none, .store none ap (.t d), none⟩ st (K .normal)) (fun listed st' a' w' g' hk hr hit => ?_) items.length items _ a _ st g rfl ?_ he (hs.sameHeap rfl rfl rfl rfl)
  · refine snd_tail cx ht h6 h7 h8 h9 g6 g7 g8 g9 d6 d7 d8 d9 hop6 hcb hca hct hop7 hop8 hop9 ut uu u7 (Nat.le_of_ble_eq_true k5) (Nat.le_of_ble_eq_true k6) hzs k8 (Nat.eq_of_beq_eq_true k9) hy hz hx7 hx8 hy9
      (Nat.ne_of_beq_eq_false k1) (isTmp_f n7) (isTmp_f n8) (isTmp_f n8') (isTmp_f n9) (isTmp_f n9') ?_ hk hr hK
    refine ⟨by rw [hit.size]; exact ht.size, fun j hj => ?_⟩
    rw [hit.all j (by rw [ht.size]; exact hj)]
    simp
  · refine ⟨by rw [Array.size_replicate]; exact hsize.symm, fun i o ho hi => ?_, fun j hj => ?_, fun p hp => ?_, by rw [e1]; exact nodupB_nodup hn, hp, fun pre i post heq o ho e hm hb => .inr ?_, fun p hp => ?_⟩
    · simp only [Array.getD_eq_getD_getElem?, Array.getElem?_replicate] at hi
      split at hi <;> simp at hi
    · constructor
      · intro _
        rcases Nat.lt_or_ge j (arr.size - 4) with h | h
        · left
          have := List.all_eq_true.1 hall j (by simpa using h)
          have hmem : j ∈ items.map (·.1) := by rw [e1]; simpa using this
          obtain ⟨p, hp, rfl⟩ := List.mem_map.1 hmem
          exact ⟨p, hp, rfl⟩
        · exact .inr h
      · intro _; simp [Array.getD, ← hsize, hj]
    · have : p.1 ∈ items.map (·.1) := List.mem_map_of_mem hp
      rw [e1] at this
      exact Nat.le_of_ble_eq_true (List.all_eq_true.1 hlt p.1 this)
    · have heq' : canon arr.toList ais (arr.size - 4) [] = pre.map (·.1) ++ i.1 :: post.map (·.1) := by rw [← e1, heq]; simp
      have := okOrd_get hord heq' o (by simpa using ho) e hm hb
      simp only [List.nil_append, List.mem_map] at this
      exact this
    · obtain ⟨o, ho, htr⟩ := trIns_get hais (e2 p hp)
      exact ⟨o, by simpa using ho, htr⟩
end
end Go.Cx
