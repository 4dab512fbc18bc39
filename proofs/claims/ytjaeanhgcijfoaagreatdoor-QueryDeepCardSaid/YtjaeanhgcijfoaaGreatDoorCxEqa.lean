/- Equality of structs, cell by cell. -/
import Derived.Test.YtjaeanhgcijfoaaGreatDoorCxCall2
import Derived.Laws.StructEq
set_option linter.unusedSimpArgs false
set_option linter.unusedVariables false
namespace Go.Cx
open Go.RowKit

theorem eqCells_len : ∀ {l : List CT} {ps qs : List PV} {r : Bool}, eqCells l ps qs = some r → ps.length = l.length ∧ qs.length = l.length
  | [], [], [], r, h => ⟨rfl, rfl⟩
  | [], _ :: _, _, r, h => by simp [eqCells] at h
  | [], [], _ :: _, r, h => by simp [eqCells] at h
  | _ :: _, [], _, r, h => by simp [eqCells] at h
  | _ :: _, _ :: _, [], r, h => by simp [eqCells] at h
  | t :: ts, p :: ps, q :: qs, r, h => by
    simp only [eqCells] at h
    split at h
    · rename_i h1 h2
      obtain ⟨h3, h4⟩ := eqCells_len h2
      simp [h3, h4]
    · cases h

theorem eqCells_append : ∀ {l1 l2 : List CT} {ps qs : List PV} {r : Bool}, eqCells (l1 ++ l2) ps qs = some r →
    ∃ r1 r2, eqCells l1 (ps.take l1.length) (qs.take l1.length) = some r1 ∧ eqCells l2 (ps.drop l1.length) (qs.drop l1.length) = some r2 ∧ r = (r1 && r2)
  | [], l2, ps, qs, r, h => ⟨true, r, by simp [eqCells], by simpa using h, by simp⟩
  | t :: l1, l2, [], qs, r, h => by simp [eqCells] at h
  | t :: l1, l2, p :: ps, [], r, h => by simp [eqCells] at h
  | t :: l1, l2, p :: ps, q :: qs, r, h => by
    simp only [List.cons_append, eqCells] at h
    split at h
    · rename_i b c h1 h2
      cases h
      obtain ⟨r1, r2, h3, h4, rfl⟩ := eqCells_append h2
      exact ⟨b && r1, r2, by simp [eqCells, h1, h3], by simpa using h4, by simp [Bool.and_assoc]⟩
    · cases h

section
variable {P : Program} {w : World} {com : Nat → Nat}

/-- Cells from some place on stand for trees. -/
def CellsAt (w : World) (com : Nat → Nat) (xs : Array Value) (off : Nat) (ps : List PV) : Prop := ∀ j p, ps[j]? = some p → ∃ v, xs[off + j]? = some v ∧ RepP w com v p

theorem CellsAt.take {xs : Array Value} {off n : Nat} {ps : List PV} (h : CellsAt w com xs off ps) : CellsAt w com xs off (ps.take n) := by
  intro j p hp
  rw [List.getElem?_take] at hp
  split at hp
  · exact h j p hp
  · cases hp
theorem CellsAt.drop {xs : Array Value} {off n : Nat} {ps : List PV} (h : CellsAt w com xs off ps) : CellsAt w com xs (off + n) (ps.drop n) := by
  intro j p hp
  rw [List.getElem?_drop] at hp
  obtain ⟨v, h1, h2⟩ := h _ p hp
  exact ⟨v, by rw [Nat.add_assoc]; exact h1, h2⟩

/-- A value that is some cells. -/
def Whole (P : Program) (t : TypeId) (xs : Array Value) (off n : Nat) (v : Value) : Prop :=
  if isAggB P t = true then v = .agg (xs.extract off (off + n)) else n = 1 ∧ xs[off]? = some v

theorem extract_get {xs : Array Value} {off n j : Nat} (hj : j < n) : (xs.extract off (off + n))[0 + j]? = xs[off + j]? := by
  rw [Array.getElem?_extract, Nat.zero_add]
  by_cases h : off + j < xs.size
  · rw [if_pos (by omega)]
  · rw [if_neg (by omega), Array.getElem?_eq_none (by omega)]

theorem part_whole {t : TypeId} {xs : Array Value} {off n : Nat} (hu : P.underlying t ≠ none) (hn : P.cellsOf t = n) (h : isAggB P t = true ∨ (n = 1 ∧ off < xs.size)) :
    ∃ v, (part t xs off).run P w = .ok v w ∧ Whole P t xs off n v := by
  obtain ⟨i, hi⟩ := info_of_underlying hu
  by_cases ha : isAggB P t = true
  · refine ⟨.agg (xs.extract off (off + n)), ?_, by simp [Whole, ha]⟩
    simp only [part, Sem.run_bind, isAgg_run t hu, Result.andThen_ok, ha, if_true, sizeOf_run hi, hn, Sem.run_pure]
  · obtain ⟨h1, h2⟩ := h.resolve_left ha
    have ha : isAggB P t = false := by simpa using ha
    refine ⟨xs[off], ?_, by simp [Whole, ha, h1, h2]⟩
    simp only [part, Sem.run_bind, isAgg_run t hu, Result.andThen_ok, ha, Bool.false_eq_true, if_false]
    simp [h2]

mutual
theorem eqLay_run : ∀ (d : Nat) (t : TypeId) (l : List CT), eqLay P d t = some l → ∀ (dd : Nat) (xs ys : Array Value) (off off' n : Nat) (ps qs : List PV) (r : Bool) (a b : Value), n = l.length →
    CellsAt w com xs off ps → CellsAt w com ys off' qs → eqCells l ps qs = some r → Whole P t xs off n a → Whole P t ys off' n b → (Op.equalIn (dd + d) t a b).run P w = .ok r w
  | 0, t, l, h => by simp [eqLay] at h
  | d + 1, t, l, h => by
    intro dd xs ys off off' n ps qs r a b hn hx hy hr ha hb
    simp only [eqLay] at h
    split at h
    · rename_i k hu
      cases h
      have hagg : isAggB P t = false := by simp [isAggB, hu]
      simp only [Whole, hagg, Bool.false_eq_true, if_false] at ha hb
      match ps, qs, hr with
      | [p], [q], hr =>
        obtain ⟨v, h1, h2⟩ := hx 0 p rfl
        obtain ⟨u, h3, h4⟩ := hy 0 q rfl
        rw [Nat.add_zero] at h1 h3
        rw [ha.2] at h1; cases h1
        rw [hb.2] at h3; cases h3
        simp only [eqCells, eqCell] at hr
        cases p <;> try (simp at hr; done)
        rename_i k1 m1
        cases q <;> try (simp at hr; done)
        rename_i k2 m2
        have e1 : IntKind.same k1 k = true ∧ IntKind.same k2 k = true ∧ r = (m1 == m2) := by
          cases c1 : IntKind.same k1 k <;> cases c2 : IntKind.same k2 k <;> simp [c1, c2] at hr ⊢
          exact hr.symm
        have hs : ∀ {x y : IntKind}, IntKind.same x y = true → x = y := by intro x y h; cases x <;> cases y <;> first | rfl | cases h
        obtain ⟨c1, c2, rfl⟩ := e1
        have := hs c1; subst this
        have := hs c2; subst this
        rw [h2.int_inv, h4.int_inv]
        exact run_equalIn_int w (dd + d) t _ _ _ _ hu
      | [], qs, hr => simp [eqCells] at hr
      | _ :: _ :: _, qs, hr => have := eqCells_len hr; simp at this
      | [p], [], hr => simp [eqCells] at hr
      | [p], _ :: _ :: _, hr => have := eqCells_len hr; simp at this
    · rename_i hu
      cases h
      have hagg : isAggB P t = false := by simp [isAggB, hu]
      simp only [Whole, hagg, Bool.false_eq_true, if_false] at ha hb
      match ps, qs, hr with
      | [p], [q], hr =>
        obtain ⟨v, h1, h2⟩ := hx 0 p rfl
        obtain ⟨u, h3, h4⟩ := hy 0 q rfl
        rw [Nat.add_zero] at h1 h3
        rw [ha.2] at h1; cases h1
        rw [hb.2] at h3; cases h3
        simp only [eqCells, eqCell] at hr
        cases p <;> try (simp at hr; done)
        cases q <;> try (simp at hr; done)
        rename_i m1 m2
        simp at hr
        subst hr
        rw [h2.bool_inv, h4.bool_inv]
        exact run_equalIn_bool' w (dd + d) t _ _ hu
      | [], qs, hr => simp [eqCells] at hr
      | _ :: _ :: _, qs, hr => have := eqCells_len hr; simp at this
      | [p], [], hr => simp [eqCells] at hr
      | [p], _ :: _ :: _, hr => have := eqCells_len hr; simp at this
    · rename_i hu
      cases h
      have hagg : isAggB P t = false := by simp [isAggB, hu]
      simp only [Whole, hagg, Bool.false_eq_true, if_false] at ha hb
      match ps, qs, hr with
      | [p], [q], hr =>
        obtain ⟨v, h1, h2⟩ := hx 0 p rfl
        obtain ⟨u, h3, h4⟩ := hy 0 q rfl
        rw [Nat.add_zero] at h1 h3
        rw [ha.2] at h1; cases h1
        rw [hb.2] at h3; cases h3
        simp only [eqCells, eqCell] at hr
        cases p <;> try (simp at hr; done)
        cases q <;> try (simp at hr; done)
        rename_i m1 m2
        simp only [Option.some.injEq, Bool.and_true] at hr
        subst hr
        rw [h2.str_inv, h4.str_inv, beq_toListBytes]
        exact run_equalIn_string w (dd + d) t _ _ hu
      | [], qs, hr => simp [eqCells] at hr
      | _ :: _ :: _, qs, hr => have := eqCells_len hr; simp at this
      | [p], [], hr => simp [eqCells] at hr
      | [p], _ :: _ :: _, hr => have := eqCells_len hr; simp at this
    · rename_i fs hu
      split at h
      · cases h
      rename_i hst
      have hagg : isAggB P t = true := by simp [isAggB, hu]
      simp only [Whole, hagg, if_true] at ha hb
      subst ha; subst hb
      have hf : P.fieldsOf t = fs := by simp [Program.fieldsOf, hu]
      rw [show dd + (d + 1) = (dd + d) + 1 from rfl, run_equalIn_struct w (dd + d) t _ _ (by rw [hf]; exact hu) (by simpa using hst), hf]
      obtain ⟨hl1, hl2⟩ := eqCells_len hr
      refine eqLayFs_run d fs.toList 0 l h dd _ _ ps qs r ?_ ?_ hr
      · intro j p hp
        have := (List.getElem?_eq_some_iff.1 hp).1
        rw [extract_get (by omega)]
        exact hx j p hp
      · intro j p hp
        have := (List.getElem?_eq_some_iff.1 hp).1
        rw [extract_get (by omega)]
        exact hy j p hp
    · cases h
theorem eqLayFs_run : ∀ (d : Nat) (fs : List Field) (off : Nat) (l : List CT), eqLayFs P d fs off = some l → ∀ (dd : Nat) (xs ys : Array Value) (ps qs : List PV) (r : Bool),
    CellsAt w com xs off ps → CellsAt w com ys off qs → eqCells l ps qs = some r → (Op.eqFields (dd + d) xs ys fs).run P w = .ok r w
  | 0, fs, off, l, h => by simp [eqLayFs] at h
  | d + 1, [], off, l, h => by
    intro dd xs ys ps qs r hx hy hr
    simp only [eqLayFs] at h
    cases h
    obtain ⟨h1, h2⟩ := eqCells_len hr
    have := List.eq_nil_of_length_eq_zero h1; subst this
    have := List.eq_nil_of_length_eq_zero h2; subst this
    simp [eqCells] at hr
    subst hr
    rfl
  | d + 1, f :: fs, off, l, h => by
    intro dd xs ys ps qs r hx hy hr
    simp only [eqLayFs] at h
    split at h
    case h_2 => cases h
    rename_i l1 l2 h1 h2
    split at h
    case isFalse => cases h
    rename_i hc
    obtain ⟨hoff, hname, hlen⟩ := hc
    cases h
    obtain ⟨r1, r2, e1, e2, rfl⟩ := eqCells_append hr
    have hu : P.underlying f.type ≠ none := by
      intro hu
      cases d with
      | zero => simp [eqLay] at h1
      | succ d => simp [eqLay, hu] at h1
    have hone : isAggB P f.type = true ∨ (l1.length = 1 ∧ l1.length ≠ 0) := by
      cases d with
      | zero => simp [eqLay] at h1
      | succ d =>
        simp only [eqLay] at h1
        split at h1
        · cases h1; exact .inr ⟨rfl, by simp⟩
        · cases h1; exact .inr ⟨rfl, by simp⟩
        · cases h1; exact .inr ⟨rfl, by simp⟩
        · rename_i fs' hu'; exact .inl (by simp [isAggB, hu'])
        · cases h1
    have hlt : ∀ (zs : Array Value) (ss : List PV), CellsAt w com zs off ss → l1.length ≤ ss.length → l1.length ≠ 0 → off < zs.size := by
      intro zs ss hz hs h0
      obtain ⟨v, hv, _⟩ := hz 0 ss[0] (by simp)
      have := (Array.getElem?_eq_some_iff.1 hv).1
      omega
    obtain ⟨hl1, hl2⟩ := eqCells_len e1
    rw [List.length_take] at hl1 hl2
    subst hoff
    obtain ⟨a, pa, wa⟩ := part_whole (w := w) (xs := xs) (off := f.offset) hu hlen.symm (hone.imp id fun h => ⟨h.1, hlt xs ps hx (by omega) h.2⟩)
    obtain ⟨b, pb, wb⟩ := part_whole (w := w) (xs := ys) (off := f.offset) hu hlen.symm (hone.imp id fun h => ⟨h.1, hlt ys qs hy (by omega) h.2⟩)
    have hrun := eqLay_run d f.type l1 h1 (dd + 1) xs ys f.offset f.offset l1.length _ _ r1 a b rfl hx.take hy.take e1 wa wb
    rw [show dd + 1 + d = dd + (d + 1) from by omega] at hrun
    have hrest := eqLayFs_run d fs _ l2 h2 (dd + 1) xs ys _ _ r2 (by rw [← hlen]; exact hx.drop) (by rw [← hlen]; exact hy.drop) e2
    rw [show dd + 1 + d = dd + (d + 1) from by omega] at hrest
    simp only [Op.eqFields, hname, ne_eq, not_false_eq_true, if_true, Sem.run_bind, pa, pb, hrun, Result.andThen_ok]
    cases r1
    · rfl
    · simpa using hrest
end

variable {β : Type} {ro : Nat} {w0 : World} {g0 g : G} {o : Oper} {a : Act} {st : St} {K : St → AV → Option β} {x : β} {C : Caller}

theorem RepP.agg_inv {v : Value} {ps : List PV} (h : RepP w com v (.agg ps)) : ∃ cs : Array Value, v = .agg cs ∧ cs.size = ps.length ∧ CellsAt w com cs 0 ps := by
  cases h with
  | agg cs _ hs hr =>
    refine ⟨cs, rfl, hs, fun j p hp => ?_⟩
    have hj : j < cs.size := by have := (List.getElem?_eq_some_iff.1 hp).1; omega
    exact ⟨cs[j], by simp [hj], hr j _ p (by simp [hj]) hp⟩

theorem val_eqa {neg : Bool} {op : BinOp} {t t' : TypeId} {y z : Operand} {ay az : AO} {l : List CT} (hop : o.op = .binOp op t y z t') (hk : eqKinds P t = some l) (hn : (op = .eql ∧ neg = false) ∨ (op = .neq ∧ neg = true))
    (hy : trO P t y = some ay) (hz : trO P t z = some az) (he : evOp C ro (.eqa neg l ay az) st K = some x) (hs : RS ro w0 g0 a w st g) : Val P ro w0 g0 o a w K x := by
  have ry := trO_rep hy hs.env
  have rz := trO_rep hz hs.env
  simp only [evOp] at he
  split at he
  case h_2 => cases he
  rename_i ps qs hp hq
  rw [hp] at ry; rw [hq] at rz
  split at he
  case h_2 => cases he
  rename_i r hr
  obtain ⟨xs, ex, hx1, hx2⟩ := ry.pv_inv.agg_inv
  obtain ⟨ys, ey, hy1, hy2⟩ := rz.pv_inv.agg_inv
  unfold eqKinds at hk
  split at hk
  case h_2 => cases hk
  rename_i fs hu
  split at hk
  · cases hk
  rename_i hg
  have hagg : isAggB P t = true := by simp [isAggB, hu]
  obtain ⟨l1, l2⟩ := eqCells_len hr
  have hwx : Whole P t xs 0 l.length (.agg xs) := by simp [Whole, hagg]; exact (Array.extract_eq_self_of_le (by omega)).symm
  have hwy : Whole P t ys 0 l.length (.agg ys) := by simp [Whole, hagg]; exact (Array.extract_eq_self_of_le (by omega)).symm
  have hrun := eqLay_run (P := P) 40 t l hk 9960 xs ys 0 0 l.length ps qs r (.agg xs) (.agg ys) rfl hx2 hy2 hr hwx hwy
  have hguard := fun op' => run_eqGuard_agg (P := P) w op' t y z xs ys (by simpa using hg)
  rcases hn with ⟨rfl, rfl⟩ | ⟨rfl, rfl⟩
  · refine Val.of he ?_ hs (rBool _) (by simp)
    simp only [execOp, hop, ex, ey, Sem.run_bind, Sem.run_pure, Result.andThen_ok, hguard, run_eql_struct, hrun, cond]
  · refine Val.of he ?_ hs (rBool _) (by simp)
    simp only [execOp, hop, ex, ey, Sem.run_bind, Sem.run_pure, Result.andThen_ok, hguard, run_neq_struct, hrun, cond]
end
end Go.Cx
