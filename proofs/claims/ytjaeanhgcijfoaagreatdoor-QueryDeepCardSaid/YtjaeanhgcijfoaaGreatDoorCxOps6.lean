/- Operations that make or write memory. -/
import Derived.Test.YtjaeanhgcijfoaaGreatDoorCxOps5
set_option linter.unusedSimpArgs false
set_option linter.unusedVariables false
namespace Go.Cx
open Go.RowKit

theorem Fr.trans {ro : Nat} {w0 w w' : World} {g0 g g' : G} (h : Fr ro w0 g0 w g) (k : Fr ro w g w' g') : Fr ro w0 g0 w' g' := by
  have hwr : ∀ b, b < w0.heap.size → ¬ Wr ro g0 b → ¬ Wr ro g b := by
    intro b hb hn hw
    rcases hw with ⟨o, ho, hob⟩ | ⟨p, hp⟩
    · rcases h.objn o b hob with h1 | h1
      · exact hn (.inl ⟨o, ho, h1⟩)
      · omega
    · rcases h.own b p hp with h1 | h1
      · omega
      · exact hn h1
  refine ⟨k.os.trans h.os, k.tape.trans h.tape, k.output.trans h.output, Nat.le_trans h.size k.size, fun b hb hn => ?_, h.keeps.trans k.keeps, fun b hb hn => ?_,
    fun o b hob => k.obj o b (h.obj o b hob), fun o b hob => ?_, fun b p hp => ?_⟩
  · exact (k.blk b (Nat.lt_of_lt_of_le hb h.size) (hwr b hb hn)).trans (h.blk b hb hn)
  · exact (k.com b (Nat.lt_of_lt_of_le hb h.size) (hwr b hb hn)).trans (h.com b hb hn)
  · rcases k.objn o b hob with h1 | h1
    · exact h.objn o b h1
    · exact .inr (Nat.le_trans h.size h1)
  · rcases k.own b p hp with h1 | h1
    · exact .inl (Nat.le_trans h.size h1)
    · by_cases hb : b < w0.heap.size
      · by_cases hn : Wr ro g0 b
        · exact .inr hn
        · exact absurd h1 (hwr b hb hn)
      · exact .inl (by omega)

/-- What the places own stays theirs. -/
def Hold (w : World) (g : G) (w' : World) (g' : G) (p : Nat × Nat) : Prop := ∀ b, g.own b = some p → g'.own b = some p ∧ g'.com b = g.com b ∧ w'.heap[b]? = w.heap[b]?

theorem OwnAt.hold {w w' : World} {g g' : G} {p : Nat × Nat} {v : Value} {x : AV} (h : OwnAt w g p v x) (hh : Hold w g w' g' p) : OwnAt w' g' p v x := by
  intro sz xs hx
  obtain ⟨a, n, c, rfl, hc | ⟨b, cs, e, ha, hb, hcom, hblk, h1, h2⟩⟩ := h sz xs hx
  · exact ⟨a, n, c, rfl, .inl hc⟩
  · obtain ⟨k1, k2, k3⟩ := hh b hb
    exact ⟨a, n, c, rfl, .inr ⟨b, cs, e, ha, k1, k2.trans hcom, k3.trans hblk, h1, h2⟩⟩

theorem RepE.step {w w' : World} {g g' : G} {tmps : Array Value} {env : List AV} (h : RepE w g tmps env) (hk : Keeps w g.com w' g'.com) (ho : ObjExt g g') (hh : ∀ t, t < env.length → Hold w g w' g' (0, t)) : RepE w' g' tmps env :=
  ⟨h.1, fun t v x hv hx => ⟨(h.2 t v x hv hx).1.mono hk ho, (h.2 t v x hv hx).2.hold (hh t (List.getElem?_eq_some_iff.1 hx).1)⟩⟩

theorem RepObj.step {w w' : World} {g g' : G} {o b : Nat} {ob : AObj} (h : RepObj w g o b ob) (hk : Keeps w g.com w' g'.com) (ho : ObjExt g g') (hb : w'.heap[b]? = w.heap[b]?) (hh : ∀ j, Hold w g w' g' (o + 1, j)) : RepObj w' g' o b ob := by
  cases ob with
  | iter s pos => exact hb.trans h
  | cells c =>
    obtain ⟨cs, e, h1, h2, h3⟩ := h
    exact ⟨cs, e, hb.trans h1, h2, fun j v x hv hx => ⟨(h3 j v x hv hx).1.mono hk ho, (h3 j v x hv hx).2.hold (hh j)⟩⟩

theorem RS.step {ro : Nat} {w0 : World} {g0 : G} {a : Act} {w w' : World} {st : St} {g g' : G} {objs : List AObj} (h : RS ro w0 g0 a w st g) (hf : Fr ro w g w' g') (hwf : WF w' g' objs)
    (hh : ∀ t, t < st.env.length → Hold w g w' g' (0, t)) : RS ro w0 g0 a w' ⟨st.env, objs⟩ g' :=
  ⟨h.defers, h.env.step hf.keeps hf.obj hh, hwf, h.fr.trans hf⟩

/-! ### A new block -/
theorem heap_alloc_old (w : World) (ob : Obj) {b : Nat} (h : b < w.heap.size) : (w.alloc ob).heap[b]? = w.heap[b]? := Below.heap_alloc w ob b h
theorem heap_alloc_new (w : World) (ob : Obj) : (w.alloc ob).heap[w.heap.size]? = some ob := by
  show (w.heap.push ob)[w.heap.size]? = _
  simp
theorem lt_of_heap {w : World} {b : Nat} {ob : Obj} (h : w.heap[b]? = some ob) : b < w.heap.size := (Array.getElem?_eq_some_iff.1 h).1

section
variable {w : World} {g : G} {objs : List AObj} {ro : Nat}

theorem WF.block_lt (h : WF w g objs) {o b : Nat} (hb : g.obj o = some b) : b < w.heap.size := by
  have ho : o < objs.length := by
    rcases Nat.lt_or_ge o objs.length with h1 | h1
    · exact h1
    · rw [h.dom o h1] at hb; cases hb
  obtain ⟨b', hb', hr⟩ := h.rep o objs[o] (by simp [ho])
  rw [hb] at hb'; cases hb'
  revert hr
  cases objs[o] with
  | iter s pos => exact fun hr => lt_of_heap hr
  | cells c => exact fun ⟨cs, e, h1, _⟩ => lt_of_heap h1

theorem WF.com_lt (h : WF w g objs) {b : Nat} (hb : 0 < g.com b) : b < w.heap.size := by
  rcases Nat.lt_or_ge b w.heap.size with h1 | h1
  · exact h1
  · rw [h.fresh b h1] at hb; omega

theorem WF.keeps_alloc (h : WF w g objs) (ob : Obj) {c' : Nat → Nat} (hc : ∀ b, b ≠ w.heap.size → c' b = g.com b) : Keeps w g.com (w.alloc ob) c' := by
  refine ⟨fun b => ?_, fun b o ho => ?_⟩
  · by_cases hb : b = w.heap.size
    · subst hb; rw [h.fresh _ (Nat.le_refl _)]; exact Nat.zero_le _
    · rw [hc b hb]; exact Nat.le_refl _
  · exact World.cell?_alloc_lt _ _ _ (h.com_lt (b := b) (by omega))

/-- A new block that is a row of its own. -/
def G.row (g : G) (b n : Nat) : G := { g with com := fun b' => if b' = b then n else g.com b' }
/-- A new block that is an object. -/
def G.newObj (g : G) (o b : Nat) : G := { g with obj := fun o' => if o' = o then some b else g.obj o' }

theorem hold_alloc (h : WF w g objs) (ob : Obj) {g' : G} (ho : g'.own = g.own) (hc : ∀ b, b ≠ w.heap.size → g'.com b = g.com b) (p : Nat × Nat) : Hold w g (w.alloc ob) g' p := by
  intro b hb
  have := h.ownlt b p hb
  exact ⟨by rw [ho]; exact hb, hc b (by omega), heap_alloc_old w ob this⟩

theorem fr_alloc (h : WF w g objs) (ob : Obj) {g' : G} (ho : g'.own = g.own) (hc : ∀ b, b ≠ w.heap.size → g'.com b = g.com b) (hobj : ∀ o b, g.obj o = some b → g'.obj o = some b)
    (hobjn : ∀ o b, g'.obj o = some b → g.obj o = some b ∨ w.heap.size ≤ b) : Fr ro w g (w.alloc ob) g' :=
  ⟨rfl, rfl, rfl, by simp, fun b hb _ => heap_alloc_old w ob hb, h.keeps_alloc ob hc, fun b hb _ => hc b (by omega), hobj, hobjn, fun b p hp => .inr (.inr ⟨p, by rw [← ho]; exact hp⟩)⟩

theorem WF.alloc_row (h : WF w g objs) (ob : Obj) (n : Nat) : WF (w.alloc ob) (g.row w.heap.size n) objs := by
  have hc : ∀ b, b ≠ w.heap.size → (g.row w.heap.size n).com b = g.com b := fun b hb => if_neg hb
  refine ⟨h.dom, fun o x hx => ?_, h.inj, fun b hb => ?_, fun o b hb => ?_, fun b p hp => ?_, h.ownobj⟩
  · obtain ⟨b, hb, hr⟩ := h.rep o x hx
    exact ⟨b, hb, hr.step (h.keeps_alloc ob hc) (fun _ _ h => h) (heap_alloc_old w ob (h.block_lt hb)) (fun j => hold_alloc (g' := g.row w.heap.size n) h ob rfl hc _)⟩
  · simp at hb
    rw [hc b (by omega)]
    exact h.fresh b (by omega)
  · have := h.block_lt hb
    rw [hc b (by omega)]
    exact h.comobj o b hb
  · have := h.ownlt b p hp
    simp; omega

theorem RepObj.of_new {w : World} {g g' : G} {o b : Nat} (cs : Array Value) (e : TypeId) (c : List AV) (hb : w.heap[b]? = some (.cells cs e (0, 0))) (hs : cs.size = c.length)
    (hr : ∀ (j : Nat) (v : Value) (x : AV), cs[j]? = some v → c[j]? = some x → RepA w g' v x ∧ OwnAt w g' (o + 1, j) v x) : RepObj w g' o b (.cells c) := ⟨cs, e, hb, hs, hr⟩

theorem WF.alloc_obj (h : WF w g objs) (ob : Obj) (x : AObj) (hx : RepObj (w.alloc ob) (g.newObj objs.length w.heap.size) objs.length w.heap.size x) : WF (w.alloc ob) (g.newObj objs.length w.heap.size) (objs ++ [x]) := by
  have hc : ∀ b, b ≠ w.heap.size → (g.newObj objs.length w.heap.size).com b = g.com b := fun b hb => rfl
  have hext : ObjExt g (g.newObj objs.length w.heap.size) := by
    intro o b hb
    show (if o = objs.length then some w.heap.size else g.obj o) = some b
    rw [if_neg]; exact hb
    intro he; subst he; rw [h.dom _ (Nat.le_refl _)] at hb; cases hb
  refine ⟨fun o ho => ?_, fun o y hy => ?_, fun o o' b hb hb' => ?_, fun b hb => ?_, fun o b hb => ?_, fun b p hp => ?_, fun o b p hb hp => ?_⟩
  · simp at ho
    show (if o = objs.length then some w.heap.size else g.obj o) = none
    rw [if_neg (by omega)]
    exact h.dom o (by omega)
  · by_cases ho : o < objs.length
    · rw [List.getElem?_append_left ho] at hy
      obtain ⟨b, hb, hr⟩ := h.rep o y hy
      exact ⟨b, hext o b hb, hr.step (h.keeps_alloc ob hc) hext (heap_alloc_old w ob (h.block_lt hb)) (fun j => hold_alloc (g' := g.newObj objs.length w.heap.size) h ob rfl hc _)⟩
    · have : o = objs.length := by
        have := (List.getElem?_eq_some_iff.1 hy).1
        simp at this; omega
      subst this
      simp at hy; subst hy
      exact ⟨w.heap.size, if_pos rfl, hx⟩
  · have hb : (if o = objs.length then some w.heap.size else g.obj o) = some b := hb
    have hb' : (if o' = objs.length then some w.heap.size else g.obj o') = some b := hb'
    split at hb <;> split at hb'
    · omega
    · cases hb; have := h.block_lt hb'; omega
    · cases hb'; have := h.block_lt hb; omega
    · exact h.inj o o' b hb hb'
  · simp at hb
    exact h.fresh b (by omega)
  · have hb : (if o = objs.length then some w.heap.size else g.obj o) = some b := hb
    split at hb
    · cases hb; exact h.fresh _ (Nat.le_refl _)
    · exact h.comobj o b hb
  · have := h.ownlt b p hp
    simp; omega
  · have hb : (if o = objs.length then some w.heap.size else g.obj o) = some b := hb
    split at hb
    · cases hb; have := h.ownlt _ p hp; omega
    · exact h.ownobj o b p hb hp

theorem fr_newObj (h : WF w g objs) (ob : Obj) : Fr ro w g (w.alloc ob) (g.newObj objs.length w.heap.size) := by
  refine fr_alloc h ob rfl (fun b hb => rfl) (fun o b hb => ?_) (fun o b hb => ?_)
  · show (if o = objs.length then some w.heap.size else g.obj o) = some b
    rw [if_neg]; exact hb
    intro he; subst he; rw [h.dom _ (Nat.le_refl _)] at hb; cases hb
  · have hb : (if o = objs.length then some w.heap.size else g.obj o) = some b := hb
    split at hb
    · cases hb; exact .inr (Nat.le_refl _)
    · exact .inl hb
theorem fr_row (h : WF w g objs) (ob : Obj) (n : Nat) : Fr ro w g (w.alloc ob) (g.row w.heap.size n) :=
  fr_alloc h ob rfl (fun b hb => if_neg hb) (fun o b hb => hb) (fun o b hb => .inl hb)
end
end Go.Cx
