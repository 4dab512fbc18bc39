/- How trees and abstract values stand for the model's values in a world. -/
import Derived.Test.YtjaeanhgcijfoaaGreatDoorCxTr
import Derived.Below
import Derived.Laws.Sem
set_option linter.unusedVariables false
set_option linter.unusedSimpArgs false
namespace Go.Cx
open Go.RowKit

/-- 'v' is the tree 'p' in 'w'; of each block b the cells below 'com b' stay as they are. -/
inductive RepP (w : World) (com : Nat → Nat) : Value → PV → Prop
  | bool (b) : RepP w com (.bool b) (.bool b)
  | int (k n) : RepP w com (.int k n) (.int k n)
  | str (s) : RepP w com (.string s) (.str s)
  | nilp : RepP w com (.pointer none) .nilp
  | nilIface : RepP w com .nilIface .nilIface
  | nilFn : RepP w com .nilFunc .nilFn
  | sl0 (a : Option Addr) (c sz : Nat) : RepP w com (.slice a 0 c) (.sl sz [])
  | sl (b off n c sz : Nat) (xs : List (List PV)) (val : Nat → Nat → Value) (hn : xs.length = n) (hc : n ≤ c)
      (hcom : off + n * sz ≤ com b) (hsz : ∀ (i : Nat) (x : List PV), xs[i]? = some x → x.length = sz)
      (hcell : ∀ i j, i < n → j < sz → w.cell? ⟨b, off + i * sz + j, none⟩ = some (val i j))
      (hone : ∀ i j, i < n → j < sz → (val i j).oneCell' = true)
      (hrep : ∀ (i j : Nat) (x : List PV) (p : PV), xs[i]? = some x → x[j]? = some p → RepP w com (val i j) p) :
      RepP w com (.slice (some ⟨b, off, none⟩) n c) (.sl sz xs)
  | agg (cs : Array Value) (ps : List PV) (hs : cs.size = ps.length) (hr : ∀ (j : Nat) (v : Value) (p : PV), cs[j]? = some v → ps[j]? = some p → RepP w com v p) :
      RepP w com (.agg cs) (.agg ps)
  | tup (cs : Array Value) (ps : List PV) (hs : cs.size = ps.length) (hr : ∀ (j : Nat) (v : Value) (p : PV), cs[j]? = some v → ps[j]? = some p → RepP w com v p) :
      RepP w com (.tuple cs) (.tup ps)
  | iface (t : TypeId) (v : Value) (p : PV) (h : RepP w com v p) : RepP w com (.iface t v) (.iface t p)

/-- What stayed stays, and reads as it did. -/
def Keeps (w : World) (c : Nat → Nat) (w' : World) (c' : Nat → Nat) : Prop :=
  (∀ b, c b ≤ c' b) ∧ ∀ b o, o < c b → w'.cell? ⟨b, o, none⟩ = w.cell? ⟨b, o, none⟩

theorem Keeps.refl (w : World) (c : Nat → Nat) : Keeps w c w c := ⟨fun _ => Nat.le_refl _, fun _ _ _ => rfl⟩
theorem Keeps.trans {w w' w'' : World} {c c' c'' : Nat → Nat} (h : Keeps w c w' c') (h' : Keeps w' c' w'' c'') : Keeps w c w'' c'' :=
  ⟨fun b => Nat.le_trans (h.1 b) (h'.1 b), fun b o ho => (h'.2 b o (Nat.lt_of_lt_of_le ho (h.1 b))).trans (h.2 b o ho)⟩

theorem RepP.mono {w w' : World} {c c' : Nat → Nat} (hk : Keeps w c w' c') {v : Value} {p : PV} (h : RepP w c v p) : RepP w' c' v p := by
  induction h with
  | bool b => exact .bool b
  | int k n => exact .int k n
  | str s => exact .str s
  | nilp => exact .nilp
  | nilIface => exact .nilIface
  | nilFn => exact .nilFn
  | sl0 a c sz => exact .sl0 a c sz
  | sl b off n c sz xs val hn hc hcom hsz hcell hone _ ih =>
    refine .sl b off n c sz xs val hn hc (Nat.le_trans hcom (hk.1 b)) hsz (fun i j hi hj => ?_) hone ih
    rw [hk.2 b _ ?_]
    · exact hcell i j hi hj
    · have : (i + 1) * sz ≤ n * sz := Nat.mul_le_mul_right _ hi
      have : i * sz + sz = (i + 1) * sz := by rw [Nat.add_mul, Nat.one_mul]
      omega
  | agg cs ps hs _ ih => exact .agg cs ps hs ih
  | tup cs ps hs _ ih => exact .tup cs ps hs ih
  | iface t v p _ ih => exact .iface t v p ih

/-- The ghost: what stays; where the store's objects lie; whose the spare room of a block is. -/
structure G where
  com : Nat → Nat
  obj : Nat → Option Nat
  own : Nat → Option (Nat × Nat)

inductive RepA (w : World) (g : G) : Value → AV → Prop
  | any (v) : RepA w g v .any
  | pv (v p) (h : RepP w g.com v p) : RepA w g v (.pv p)
  | own (v sz xs) (h : RepP w g.com v (.sl sz xs)) : RepA w g v (.own sz xs)
  | nil (sz) : RepA w g (.slice none 0 0) (.nil sz)
  | ptr (o off b : Nat) (h : g.obj o = some b) : RepA w g (.pointer (some ⟨b, off, none⟩)) (.ptr o off)
  | rp (b off : Nat) (c : List PV) (val : Nat → Value) (hcom : 0 < c.length → off + c.length ≤ g.com b)
      (hcell : ∀ j, j < c.length → w.cell? ⟨b, off + j, none⟩ = some (val j)) (hrep : ∀ (j : Nat) (p : PV), c[j]? = some p → RepP w g.com (val j) p) :
      RepA w g (.pointer (some ⟨b, off, none⟩)) (.rp c)
  | fn (f : FuncId) (fs cs : Array Value) (as bs : List AV) (hf : fs.size = as.length) (hc : cs.size = bs.length)
      (ha : ∀ (j : Nat) (v : Value) (x : AV), fs[j]? = some v → as[j]? = some x → RepA w g v x) (hb : ∀ (j : Nat) (v : Value) (x : AV), cs[j]? = some v → bs[j]? = some x → RepA w g v x) :
      RepA w g (.func (.func f) fs cs) (.fn f as bs)
  | agg (cs : Array Value) (as : List AV) (hs : cs.size = as.length) (hr : ∀ (j : Nat) (v : Value) (x : AV), cs[j]? = some v → as[j]? = some x → RepA w g v x) : RepA w g (.agg cs) (.agg as)
  | tup (cs : Array Value) (as : List AV) (hs : cs.size = as.length) (hr : ∀ (j : Nat) (v : Value) (x : AV), cs[j]? = some v → as[j]? = some x → RepA w g v x) : RepA w g (.tuple cs) (.tup as)

def ObjExt (g g' : G) : Prop := ∀ o b, g.obj o = some b → g'.obj o = some b

theorem RepA.mono {w w' : World} {g g' : G} (hk : Keeps w g.com w' g'.com) (ho : ObjExt g g') {v : Value} {x : AV} (h : RepA w g v x) : RepA w' g' v x := by
  induction h with
  | any v => exact .any v
  | pv v p h => exact .pv v p (h.mono hk)
  | own v sz xs h => exact .own v sz xs (h.mono hk)
  | nil sz => exact .nil sz
  | ptr o off b h => exact .ptr o off b (ho _ _ h)
  | rp b off c val hcom hcell hrep =>
    exact .rp b off c val (fun h0 => Nat.le_trans (hcom h0) (hk.1 b)) (fun j hj => by rw [hk.2 b _ (by have := hcom (by omega); omega)]; exact hcell j hj) (fun j p hp => (hrep j p hp).mono hk)
  | fn f fs cs as bs hf hc _ _ iha ihb => exact .fn f fs cs as bs hf hc iha ihb
  | agg cs as hs _ ih => exact .agg cs as hs ih
  | tup cs as hs _ ih => exact .tup cs as hs ih

theorem RepA.view {w : World} {g : G} {v : Value} {x : AV} (h : RepA w g v x) : RepA w g v x.view := by
  cases h with
  | own v sz xs h => exact .pv _ _ h
  | nil sz => exact .pv _ _ (.sl0 _ _ _)
  | any => exact .any _
  | pv _ _ h => exact .pv _ _ h
  | ptr o off b h => exact .ptr o off b h
  | rp b off c val h1 h2 h3 => exact .rp b off c val h1 h2 h3
  | fn f fs cs as bs hf hc ha hb => exact .fn f fs cs as bs hf hc ha hb
  | agg cs as hs hr => exact .agg cs as hs hr
  | tup cs as hs hr => exact .tup cs as hs hr

/-- The spare room of the slice at a place is that place's alone. -/
def OwnOK (w : World) (g : G) (p : Nat × Nat) (v : Value) (sz : Nat) : Prop :=
  ∃ a n c, v = .slice a n c ∧ (c = n ∨ ∃ b cs e, a = some ⟨b, 0, none⟩ ∧ g.own b = some p ∧ g.com b = n * sz ∧
    w.heap[b]? = some (.cells cs e (0, 0)) ∧ c * sz ≤ cs.size ∧ n ≤ c)
/-- What an own slice asks at its place. -/
def OwnAt (w : World) (g : G) (p : Nat × Nat) (v : Value) (x : AV) : Prop := ∀ sz xs, x = .own sz xs → OwnOK w g p v sz

theorem OwnAt.of_view (w : World) (g : G) (p : Nat × Nat) (v : Value) (x : AV) : OwnAt w g p v x.view := by
  intro sz xs h
  cases x <;> simp [AV.view] at h

def RepObj (w : World) (g : G) (o b : Nat) : AObj → Prop
  | .cells c => ∃ cs e, w.heap[b]? = some (.cells cs e (0, 0)) ∧ cs.size = c.length ∧
      ∀ j v x, cs[j]? = some v → c[j]? = some x → RepA w g v x ∧ OwnAt w g (o + 1, j) v x
  | .iter s pos => w.heap[b]? = some (.stringIter s pos)

structure WF (w : World) (g : G) (objs : List AObj) : Prop where
  dom : ∀ o, objs.length ≤ o → g.obj o = none
  rep : ∀ o ob, objs[o]? = some ob → ∃ b, g.obj o = some b ∧ RepObj w g o b ob
  inj : ∀ o o' b, g.obj o = some b → g.obj o' = some b → o = o'
  fresh : ∀ b, w.heap.size ≤ b → g.com b = 0
  comobj : ∀ o b, g.obj o = some b → g.com b = 0
  ownlt : ∀ b p, g.own b = some p → b < w.heap.size
  ownobj : ∀ o b p, g.obj o = some b → g.own b = some p → False

/-- What a call may write to, of what was there. -/
def Wr (ro : Nat) (g0 : G) (b : Nat) : Prop := (∃ o, ro ≤ o ∧ g0.obj o = some b) ∨ ∃ p, g0.own b = some p

structure Fr (ro : Nat) (w0 : World) (g0 : G) (w : World) (g : G) : Prop where
  os : w.os = w0.os
  tape : w.tape = w0.tape
  output : w.output = w0.output
  size : w0.heap.size ≤ w.heap.size
  blk : ∀ b, b < w0.heap.size → ¬ Wr ro g0 b → w.heap[b]? = w0.heap[b]?
  keeps : Keeps w0 g0.com w g.com
  com : ∀ b, b < w0.heap.size → ¬ Wr ro g0 b → g.com b = g0.com b
  obj : ∀ o b, g0.obj o = some b → g.obj o = some b
  objn : ∀ o b, g.obj o = some b → g0.obj o = some b ∨ w0.heap.size ≤ b
  own : ∀ b p, g.own b = some p → w0.heap.size ≤ b ∨ Wr ro g0 b

theorem Fr.refl (ro : Nat) (w : World) (g : G) : Fr ro w g w g :=
  ⟨rfl, rfl, rfl, Nat.le_refl _, fun _ _ _ => rfl, Keeps.refl _ _, fun _ _ _ => rfl, fun _ _ h => h, fun _ _ h => .inl h, fun _ p h => .inr (.inr ⟨p, h⟩)⟩

/-- The slots. -/
def RepE (w : World) (g : G) (tmps : Array Value) (env : List AV) : Prop :=
  tmps.size = env.length ∧ ∀ t v x, tmps[t]? = some v → env[t]? = some x → RepA w g v x ∧ OwnAt w g (0, t) v x

/-- A state stands for an activation's slots and a world. -/
structure RS (ro : Nat) (w0 : World) (g0 : G) (a : Act) (w : World) (st : St) (g : G) : Prop where
  defers : a.defers = []
  env : RepE w g a.tmps st.env
  wf : WF w g st.objs
  fr : Fr ro w0 g0 w g
end Go.Cx
