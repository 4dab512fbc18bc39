/- Operations that leave the world as it is: one by one. -/
import Derived.Test.YtjaeanhgcijfoaaGreatDoorCxOps1
import Derived.Laws.Entries
import Derived.Laws.Slices
set_option linter.unusedSimpArgs false
set_option linter.unusedVariables false
namespace Go.Cx
open Go.RowKit

theorem RepA.congr {w : World} {g g' : G} (hc : g'.com = g.com) (ho : g'.obj = g.obj) {v : Value} {x : AV} (h : RepA w g v x) : RepA w g' v x :=
  h.mono (by rw [hc]; exact Keeps.refl _ _) (by intro o b hb; rw [ho]; exact hb)

theorem RepA.ownd {w : World} {g : G} {f : Nat → Option (Nat × Nat)} {v : Value} {x : AV} (h : RepA w g v x) : RepA w { g with own := f } v x :=
  RepA.mono (g := g) (g' := { g with own := f }) (Keeps.refl _ _) (fun _ _ h => h) h

/-- A slot gives up what it owns, to another place. -/
theorem RS.transfer {ro : Nat} {w0 : World} {g0 : G} {a : Act} {w : World} {st : St} {g : G} (h : RS ro w0 g0 a w st g) (i : Nat) (q : Nat × Nat) :
    ∃ g', g'.com = g.com ∧ g'.obj = g.obj ∧ RS ro w0 g0 a w (st.drop (.t i)) g' ∧ (∀ v x, OwnAt w g (0, i) v x → OwnAt w g' q v x) := by
  refine ⟨{ g with own := fun b => if g.own b = some (0, i) then some q else g.own b }, rfl, rfl, ?_, ?_⟩
  · have hkeep : ∀ p v x, p ≠ (0, i) → OwnAt w g p v x → OwnAt w { g with own := fun b => if g.own b = some (0, i) then some q else g.own b } p v x := by
      intro p v x hp ho sz xs hx
      obtain ⟨a, n, c, rfl, hc | ⟨b, cs, e, ha, hb, hr⟩⟩ := ho sz xs hx
      · exact ⟨a, n, c, rfl, .inl hc⟩
      · refine ⟨a, n, c, rfl, .inr ⟨b, cs, e, ha, ?_, hr⟩⟩
        show (if g.own b = some (0, i) then some q else g.own b) = some p
        rw [if_neg (by rw [hb]; simpa using hp)]
        exact hb
    refine ⟨h.defers, ?_, ?_, ?_⟩
    · have hv := h.env.view i
      refine ⟨hv.1, fun t v x htv htx => ?_⟩
      obtain ⟨h1, h2⟩ := hv.2 t v x htv htx
      refine ⟨h1.ownd, ?_⟩
      by_cases hti : t = i
      · subst hti
        have : x = (st.env.getD t .any).view := by
          have := htx
          simp only [St.drop] at this
          rw [List.getElem?_set_self (by
            have := (List.getElem?_eq_some_iff.1 htx).1
            simpa [St.drop] using this)] at this
          exact (Option.some.inj this).symm
        rw [this]
        exact OwnAt.of_view _ _ _ _ _
      · exact hkeep _ _ _ (by simpa using hti) h2
    · exact ⟨h.wf.dom, fun o ob hob => by
        obtain ⟨b, hb, hr⟩ := h.wf.rep o ob hob
        refine ⟨b, hb, ?_⟩
        cases ob with
        | iter s pos => exact hr
        | cells c =>
          obtain ⟨cs, e, h1, h2, h3⟩ := hr
          exact ⟨cs, e, h1, h2, fun j v x hv hx => ⟨(h3 j v x hv hx).1.ownd, hkeep _ _ _ (by simp) (h3 j v x hv hx).2⟩⟩,
        h.wf.inj, h.wf.fresh, h.wf.comobj,
        fun b p hp => by
          by_cases hb : g.own b = some (0, i)
          · exact h.wf.ownlt b _ hb
          · simp only [if_neg hb] at hp; exact h.wf.ownlt b p hp,
        fun o b p ho hp => by
          by_cases hb : g.own b = some (0, i)
          · exact h.wf.ownobj o b _ ho hb
          · simp only [if_neg hb] at hp; exact h.wf.ownobj o b p ho hp⟩
    · exact ⟨h.fr.os, h.fr.tape, h.fr.output, h.fr.size, h.fr.blk, h.fr.keeps, h.fr.com, h.fr.obj, h.fr.objn,
        fun b p hp => by
          by_cases hb : g.own b = some (0, i)
          · exact h.fr.own b _ hb
          · simp only [if_neg hb] at hp; exact h.fr.own b p hp⟩
  · intro v x ho sz xs hx
    obtain ⟨a, n, c, rfl, hc | ⟨b, cs, e, ha, hb, hr⟩⟩ := ho sz xs hx
    · exact ⟨a, n, c, rfl, .inl hc⟩
    · refine ⟨a, n, c, rfl, .inr ⟨b, cs, e, ha, ?_, hr⟩⟩
      show (if g.own b = some (0, i) then some q else g.own b) = some q
      rw [if_pos hb]

section
variable {β : Type} {P : Program} {cr : FuncId → Option CR} {ops : List Oper} {C : Caller} {ro : Nat} {w0 w : World} {g0 g : G} {o : Oper} {a : Act} {st : St} {ao : AOp} {K : St → AV → Option β} {x : β}

/-- The operation hands back a value, and the world is as it was. -/
def Val (P : Program) (ro : Nat) (w0 : World) (g0 : G) (o : Oper) (a : Act) (w : World) (K : St → AV → Option β) (x : β) : Prop :=
  ∃ v st' y g', K st' y = some x ∧ (execOp a.eval o).run P w = .ok (.value v) w ∧ RS ro w0 g0 a w st' g' ∧ RepA w g' v y ∧ ∀ k, o.dst = some k → OwnAt w g' (0, k) v y

theorem Val.of {v : Value} {y : AV} (hk : K st y = some x) (hr : (execOp a.eval o).run P w = .ok (.value v) w) (hs : RS ro w0 g0 a w st g) (hy : RepA w g v y)
    (hn : ∀ sz xs, y ≠ .own sz xs) : Val P ro w0 g0 o a w K x :=
  ⟨v, st, y, g, hk, hr, hs, hy, fun k _ sz xs he => absurd he (hn sz xs)⟩

theorem RepA.ptr_inv {v : Value} {i off : Nat} (h : RepA w g v (.ptr i off)) : ∃ b, g.obj i = some b ∧ v = .pointer (some ⟨b, off, none⟩) := by
  cases h with | ptr _ _ b h => exact ⟨b, h, rfl⟩
theorem RepA.rp_inv {v : Value} {c : List PV} (h : RepA w g v (.rp c)) : ∃ b off, v = .pointer (some ⟨b, off, none⟩) ∧ (0 < c.length → off + c.length ≤ g.com b) ∧
    ∃ val : Nat → Value, (∀ j, j < c.length → w.cell? ⟨b, off + j, none⟩ = some (val j)) ∧ ∀ (j : Nat) (p : PV), c[j]? = some p → RepP w g.com (val j) p := by
  cases h with | rp b off _ val h1 h2 h3 => exact ⟨b, off, rfl, h1, val, h2, h3⟩
theorem RepA.fn_inv {v : Value} {f} {as bs : List AV} (h : RepA w g v (.fn f as bs)) : ∃ fs cs : Array Value, v = .func (.func f) fs cs ∧ fs.size = as.length ∧ cs.size = bs.length ∧
    (∀ (j : Nat) (v : Value) (x : AV), fs[j]? = some v → as[j]? = some x → RepA w g v x) ∧ (∀ (j : Nat) (v : Value) (x : AV), cs[j]? = some v → bs[j]? = some x → RepA w g v x) := by
  cases h with | fn _ fs cs _ _ h1 h2 h3 h4 => exact ⟨fs, cs, rfl, h1, h2, h3, h4⟩
theorem view_ne (y : AV) (sz xs) : y.view ≠ .own sz xs := by cases y <;> simp [AV.view]

theorem val_mv {t : TypeId} {y : Operand} {ay : AO} {tk : Bool} (hop : execOp a.eval o = pure (.value (a.eval y))) (hy : trO P t y = some ay)
    (he : evOp C ro (.mv tk ay) st K = some x) (hs : RS ro w0 g0 a w st g) : Val P ro w0 g0 o a w K x := by
  have hrep := trO_rep hy hs.env
  have hrun : (execOp a.eval o).run P w = .ok (.value (a.eval y)) w := by rw [hop]; rfl
  simp only [evOp] at he
  cases tk with
  | false => exact Val.of he hrun hs hrep.view (view_ne _)
  | true =>
    simp only [cond] at he
    cases y with
    | tmp i =>
      simp [trO] at hy; subst hy
      cases hd : o.dst with
      | none =>
        obtain ⟨g', hc, ho, hrs, hw⟩ := hs.transfer i (0, 0)
        exact ⟨_, _, _, g', he, hrun, hrs, hrep.congr hc ho, fun k hk => by rw [hd] at hk; cases hk⟩
      | some k =>
        obtain ⟨g', hc, ho, hrs, hw⟩ := hs.transfer i (0, k)
        refine ⟨_, _, _, g', he, hrun, hrs, hrep.congr hc ho, fun k' hk => ?_⟩
        rw [hd] at hk; cases hk
        exact hw _ _ (hs.env.get i).2
    | const v =>
      obtain ⟨z, hz, rfl⟩ := Option.map_eq_some_iff.1 hy
      exact ⟨_, _, _, g, he, hrun, hs, hrep, fun k _ => (constAV_rep hz w g).2 _⟩
    | global _ => simp [trO] at hy
    | func f =>
      simp [trO] at hy; subst hy
      exact ⟨_, _, _, g, he, hrun, hs, hrep, fun k _ sz xs h => by cases h⟩

theorem RepP.bool_inv {com} {v : Value} {b : Bool} (h : RepP w com v (.bool b)) : v = .bool b := by cases h; rfl
theorem RepP.int_inv {com} {v : Value} {k n} (h : RepP w com v (.int k n)) : v = .int k n := by cases h; rfl
theorem RepP.str_inv {com} {v : Value} {s} (h : RepP w com v (.str s)) : v = .string s := by cases h; rfl
theorem RepA.bool_inv {v : Value} {b : Bool} (h : RepA w g v (.pv (.bool b))) : v = .bool b := by cases h with | pv _ _ h => exact h.bool_inv
theorem RepA.int_inv {v : Value} {k n} (h : RepA w g v (.pv (.int k n))) : v = .int k n := by cases h with | pv _ _ h => exact h.int_inv
theorem RepA.str_inv {v : Value} {s} (h : RepA w g v (.pv (.str s))) : v = .string s := by cases h with | pv _ _ h => exact h.str_inv
theorem RepA.pv_inv {v : Value} {p} (h : RepA w g v (.pv p)) : RepP w g.com v p := by cases h with | pv _ _ h => exact h
theorem rBool (b : Bool) : RepA w g (.bool b) (.pv (.bool b)) := .pv _ _ (.bool b)
theorem rInt (k n) : RepA w g (.int k n) (.pv (.int k n)) := .pv _ _ (.int k n)
theorem rStr (s) : RepA w g (.string s) (.pv (.str s)) := .pv _ _ (.str s)

theorem val_pick {t : TypeId} {c y z : Operand} {ac ay az : AO} (hop : o.op = .pick c y z) (hc : trO' P c = some ac) (hy : trO P t y = some ay) (hz : trO P t z = some az)
    (he : evOp C ro (.pick ac ay az) st K = some x) (hs : RS ro w0 g0 a w st g) : Val P ro w0 g0 o a w K x := by
  have rc := trO_rep hc hs.env
  have ry := (trO_rep hy hs.env).view
  have rz := (trO_rep hz hs.env).view
  simp only [evOp] at he
  split at he
  · rename_i b hb
    rw [hb] at rc
    have ec := rc.bool_inv
    have hrun : (execOp a.eval o).run P w = .ok (.value (if b then a.eval y else a.eval z)) w := by
      simp only [execOp, hop, ec, asBool]; cases b <;> rfl
    split at he
    · rename_i p q hp hq
      rw [hp] at ry; rw [hq] at rz
      refine Val.of he hrun hs ?_ (by simp)
      have ey := ry.bool_inv
      have ez := rz.bool_inv
      cases b
      · simpa [ez] using rBool q
      · simpa [ey] using rBool p
    · cases b with
      | true => exact Val.of he hrun hs ry (view_ne _)
      | false => exact Val.of he hrun hs rz (view_ne _)
  · cases he

theorem val_nilck {y : Operand} {ay : AO} (hop : o.op = .nilCheck y) (hy : trO' P y = some ay)
    (he : evOp C ro (.nilck ay) st K = some x) (hs : RS ro w0 g0 a w st g) : Val P ro w0 g0 o a w K x := by
  have ry := trO_rep hy hs.env
  simp only [evOp] at he
  split at he
  · rename_i b off hp
    rw [hp] at ry
    refine Val.of he (v := a.eval y) ?_ hs ry (by simp)
    obtain ⟨b', _, hv⟩ := ry.ptr_inv; simp only [execOp, hop, hv]; rfl
  · rename_i c hp
    rw [hp] at ry
    refine Val.of he (v := a.eval y) ?_ hs ry (by simp)
    obtain ⟨b', off', hv, _⟩ := ry.rp_inv; simp only [execOp, hop, hv]; rfl
  · rename_i f fa fc hp
    rw [hp] at ry
    refine Val.of he (v := a.eval y) ?_ hs ry (by simp)
    obtain ⟨fs, cs, hv, _⟩ := ry.fn_inv; simp only [execOp, hop, hv]; rfl
  · cases he

theorem same_eq {k k' : IntKind} (h : IntKind.same k k' = true) : k = k' := by cases k <;> cases k' <;> first | rfl | cases h

theorem cond_some {b : Bool} {p q : Option β} (h : cond b p q = some x) : (b = true ∧ p = some x) ∨ (b = false ∧ q = some x) := by cases b <;> simp_all
theorem cond_some_none {b : Bool} {p : Option β} (h : cond b p none = some x) : b = true ∧ p = some x := by cases b <;> simp_all
theorem cond_none_some {b : Bool} {p : Option β} (h : cond b none p = some x) : b = false ∧ p = some x := by cases b <;> simp_all
end
end Go.Cx
