/- Where an evaluation stands inside a function: what is left, as data. -/
import Derived.Test.YtjaeanhgcijfoaaGreatDoorCxFn
set_option linter.unusedVariables false
set_option linter.unusedSimpArgs false
namespace Go.Cx
def ba (l : List Nat) : ByteArray := ⟨⟨l.map UInt8.ofNat⟩⟩
def crW : Option FuncId → Option CR := fun _ => some .wide
def ACode.l : ACode → ACode
  | .seq a _ | .cond _ a _ | .block _ a | .loop _ a | .mask _ a => a
  | c => c
def ACode.r : ACode → ACode
  | .seq _ b | .cond _ _ b => b
  | c => c

/-- What is left behind a piece of code. -/
inductive Fram where
  | seq (b : ACode)
  | block (id : Nat)
  | loop (keep : Option (List Nat)) (m : Nat) (c : ACode) (n : Nat)

def runK {β : Type} (C : Caller) (N : Nat) (E : AExit → St → Option β) : List Fram → AExit → St → Option β
  | [], e, st => E e st
  | .seq b :: fs, e, st => match e with
    | .normal => evC C 0 N b (runK C N E fs) st
    | e => runK C N E fs e st
  | .block id :: fs, e, st => match e with
    | .exit id' => cond (Nat.beq id' id) (runK C N E fs .normal st) (runK C N E fs (.exit id') st)
    | e => runK C N E fs e st
  | .loop keep m c n :: fs, e, st => match e with
    | .normal => maskOp keep m st (loopN (evC C 0 N c) (maskOp keep m) (runK C N E fs) n)
    | e => runK C N E fs e st

def finF (F : AFn) (m : Nat) (e : AExit) (st : St) : Option (AV × List AObj) :=
  match e with
  | .exit _ => none
  | _ => evResL st F.res fun l => endM m (mkTup l) st.objs
def runF (C : Caller) (N : Nat) (F : AFn) (args : List AV) (objs : List AObj) : Option (AV × List AObj) := evFn C 0 N F args objs (endM objs.length)
def codeL (C : Caller) (N : Nat) (F : AFn) (m : Nat) (c : ACode) (fs : List Fram) (env : List AV) (objs : List AObj) : Option (AV × List AObj) := evC C 0 N c (runK C N (finF F m) fs) ⟨env, objs⟩
def loopL (C : Caller) (N : Nat) (F : AFn) (m : Nat) (keep : Option (List Nat)) (mm : Nat) (c : ACode) (fs : List Fram) (n : Nat) (env : List AV) (objs : List AObj) : Option (AV × List AObj) :=
  loopN (evC C 0 N c) (maskOp keep mm) (runK C N (finF F m) fs) n ⟨env, objs⟩

/-! ### Tables -/
def tab0 : FuncId → Option Ent := fun _ => none
def tabT (T : FuncId → Option Ent) (f : FuncId) (M : List AV → List AObj → Ans) : FuncId → Option Ent := fun x => cond (Nat.beq x f) (some (.told (fun _ _ => none) (fun args objs => M args (objs.map growO)))) (T x)
def tabF (T : FuncId → Option Ent) (f : FuncId) (F : AFn) : FuncId → Option Ent := fun x => cond (Nat.beq x f) (some (.fn F)) (T x)

section
variable {P : Program} {Gl : World → Prop} {B0 : Nat} {T : FuncId → Option Ent}
/-- What is told of a function holds. -/
def ToldOK (P : Program) (Gl : World → Prop) (B0 : Nat) (f : FuncId) (M : List AV → List AObj → Ans) : Prop :=
  ∀ args objs r objs', (M args objs).get = some (r, objs') → FnM P Gl B0 f args objs r objs'

theorem TabOK.zero : TabOK P Gl B0 tab0 := ⟨(fun f F h => by cases h), (fun f R M h => by cases h), (fun f R M h => by cases h), (fun f H h => by cases h)⟩
theorem TabOK.told (h : TabOK P Gl B0 T) {f : FuncId} {M : List AV → List AObj → Ans} (hM : ToldOK P Gl B0 f M) : TabOK P Gl B0 (tabT T f M) := by
  constructor
  · intro x F hx
    unfold tabT at hx
    cases hb : Nat.beq x f <;> rw [hb] at hx
    · exact h.fn x F hx
    · cases hx
  · intro x R M' hx
    unfold tabT at hx
    cases hb : Nat.beq x f <;> rw [hb] at hx
    · exact h.R x R M' hx
    · cases hx
      intro args objs p hp; cases hp
  · intro x R M' hx
    unfold tabT at hx
    cases hb : Nat.beq x f <;> rw [hb] at hx
    · exact h.M x R M' hx
    · cases hx
      rw [Nat.eq_of_beq_eq_true hb]
      intro args objs r objs' h
      obtain ⟨h1, h2⟩ := hM args _ r objs' h
      refine ⟨h1, fun w g vs hg hl ha hw => (h2 w g vs hg hl ha hw.grow).mono fun e w' ⟨v, g', e1, e2, e3, e4, e5⟩ => ⟨v, g', e1, e2, e3, e4, by simpa using e5⟩⟩
  · intro x H hx
    unfold tabT at hx
    cases hb : Nat.beq x f <;> rw [hb] at hx
    · exact h.H x H hx
    · cases hx
theorem TabOK.code (h : TabOK P Gl B0 T) {f : FuncId} {F : AFn} {cr : Option FuncId → Option CR} {ann : Ann} (ht : trF P cr f ann = some F) : TabOK P Gl B0 (tabF T f F) := by
  constructor
  · intro x F' hx
    unfold tabF at hx
    cases hb : Nat.beq x f <;> rw [hb] at hx
    · exact h.fn x F' hx
    · cases hx
      rw [Nat.eq_of_beq_eq_true hb]
      exact ⟨cr, ann, ht⟩
  · intro x R M' hx
    unfold tabF at hx
    cases hb : Nat.beq x f <;> rw [hb] at hx
    · exact h.R x R M' hx
    · cases hx
  · intro x R M' hx
    unfold tabF at hx
    cases hb : Nat.beq x f <;> rw [hb] at hx
    · exact h.M x R M' hx
    · cases hx
  · intro x H hx
    unfold tabF at hx
    cases hb : Nat.beq x f <;> rw [hb] at hx
    · exact h.H x H hx
    · cases hx

/-- A call of trees that leaves what was there. -/
theorem FnM_quiet {f : FuncId} {args : List AV} {p : PV} (he : Enters P f) (h : ∀ w g vs, Gl w → Low B0 w g → ArgsRep w g vs args → WF w g [] →
    Calls P f vs.toArray w fun e w' => ∃ v com', e = .returned v ∧ RepP w' com' v p ∧ Quiet w g.com w' com') : FnM P Gl B0 f args [] (.pv p) [] := by
  refine ⟨he, fun w g vs hg hl ha hw => (h w g vs hg hl ha hw).mono fun e w' ⟨v, com', e1, hr, hq⟩ => ⟨v, { g with com := com' }, e1, .pv _ _ hr, ?_, ?_, Nat.le_refl _⟩⟩
  · exact ⟨hw.dom, (fun o ob h => by simp at h), hw.inj, hq.fresh, (fun o b h => by have := hw.dom o (Nat.zero_le _); rw [this] at h; cases h), (fun b p hp => Nat.lt_of_lt_of_le (hw.ownlt b p hp) hq.size), hw.ownobj⟩
  · refine ⟨hq.os, hq.tape, hq.output, hq.size, fun b hb _ => (hq.blk b hb).1, ⟨fun b => ?_, fun b o ho => ?_⟩, fun b hb _ => (hq.blk b hb).2, fun _ _ h => h, fun _ _ h => .inl h, fun b p hp => .inr (.inr ⟨p, hp⟩)⟩
    · show g.com b ≤ com' b
      by_cases hb : b < w.heap.size
      · rw [(hq.blk b hb).2]; exact Nat.le_refl _
      · rw [hw.fresh b (by omega)]; exact Nat.zero_le _
    · have hb : b < w.heap.size := by
        rcases Nat.lt_or_ge b w.heap.size with h | h
        · exact h
        · rw [hw.fresh b h] at ho; exact absurd ho (Nat.not_lt_zero _)
      simp only [World.cell?, (hq.blk b hb).1]

theorem FnM_of_run (hst : ∀ w w' : World, Gl w → (∀ b, b < B0 → w'.heap[b]? = w.heap[b]?) → Gl w') (hT : TabOK P Gl B0 T) {k : Nat} {cr : Option FuncId → Option CR} {f : FuncId} {ann : Ann} {F : AFn} {N : Nat} {args : List AV} {objs : List AObj} {r : AV} {objs' : List AObj}
    (htr : trF P cr f ann = some F) (h : runF (ev T k) N F args objs = some (r, objs')) : FnM P Gl B0 f args objs r objs' :=
  FnM_of_ev hst (snd_ev hst hT k) htr h
end
end Go.Cx
