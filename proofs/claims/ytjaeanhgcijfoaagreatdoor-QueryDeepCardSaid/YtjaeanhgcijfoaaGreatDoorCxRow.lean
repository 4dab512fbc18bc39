/- From an evaluation to a law's row. -/
import Derived.Test.YtjaeanhgcijfoaaGreatDoorCxRun
import Derived.Below
import Derived.ChangeSame
set_option linter.unusedVariables false
set_option linter.unusedSimpArgs false
namespace Go.Cx
open Go.RowKit Go.WideShapes Go.ChangeShapes

/-- What a law's contract tells. -/
theorem FnM.law {P : Program} {Gl : World → Prop} {B0 : Nat} {f : FuncId} {args : List PV} {b : Bool} (h : FnM P Gl B0 f (args.map .pv) [] (.pv (.bool b)) [])
    {w : World} {com : Nat → Nat} {vs : List Value} (hg : Gl w) (hB : B0 ≤ w.heap.size) (hfresh : ∀ b, w.heap.size ≤ b → com b = 0) (hl : vs.length = args.length)
    (ha : ∀ (i : Nat) (v : Value) (q : PV), vs[i]? = some v → args[i]? = some q → RepP w com v q) :
    Calls P f vs.toArray w fun e w' => e = .returned (.bool b) ∧ Below w.heap.size w w' := by
  refine (h.2 w ⟨com, fun _ => none, fun _ => none⟩ vs hg ⟨hB, (fun o b h => by cases h), (fun b p h => by cases h)⟩ ⟨by simpa using hl, fun i v x hv hx => ?_⟩
    ⟨(fun _ _ => rfl), (fun o ob h => by simp at h), (fun o o' b h => by cases h), hfresh, (fun o b h => by cases h), (fun b p h => by cases h), (fun o b p h => by cases h)⟩).mono ?_
  · rw [List.getElem?_map] at hx
    obtain ⟨q, hq, rfl⟩ := Option.map_eq_some_iff.1 hx
    exact ⟨.pv _ _ (ha i v q hv hq), by simp⟩
  · rintro e w' ⟨v, g', rfl, hr, _, hf, _⟩
    refine ⟨by rw [hr.bool_inv], ⟨hf.os, hf.tape, hf.output, hf.size, fun k hk => hf.blk k hk ?_⟩⟩
    rintro (⟨o, _, ho⟩ | ⟨p, hp⟩)
    · cases ho
    · cases hp

section
variable {H : Type} {enc : TypeId × Value → H} {P : Program}
/-- A row's last step where all that is told of the world is that what was there is as it was. -/
theorem post_below {f : Func} {s : ChangeSpec} {apart fresh handsOn again : Bool} {W W' : World} {args : Array Value} {v : Value} {ds gs : List (DataW H)} {before pa pv : List MemPlace}
    (hW : DataW.Whole enc P f.params.toList s.vars apart W args.toList ds gs before)
    (hres : ∀ (b : Nat) (sp : Nat → Bool) (hd : Bool), DataW.TrodAll enc P W' b sp hd f.resultTypes.toList (v.resultList f.resultTypes.size) (s.fn H (ds ++ gs)).results [])
    (hargs : ∀ sp : Nat → Bool, (∀ p ∈ before, sp p.block = true) → DataW.TrodAll enc P W' 0 sp true f.params.toList args.toList (s.fn H (ds ++ gs)).args pa)
    (hvars : ∀ sp : Nat → Bool, (∀ p ∈ before, sp p.block = true) → DataW.TrodVars enc P W' sp s.vars (s.fn H (ds ++ gs)).vars pv)
    (hps : before = pa ++ pv) (hb : Below W.heap.size W W')
    (hok : ∀ (j : Nat) (t : TypeId) (r : Value), f.resultTypes[j]? = some t → (v.resultList f.resultTypes.size)[j]? = some r → Value.okWide P W' .any 0 t r) :
    s.post enc P f apart fresh handsOn again W args v W' := by
  have hlt : ∀ p ∈ before, p.block < W.heap.size := fun p hp => hW.lt p hp
  have hold : ∀ p ∈ before, (fun b => decide (b < W.heap.size)) p.block = true := fun p hp => by simpa using hlt p hp
  refine ⟨ds, gs, before, [], pa, pv, hW, hres _ _ _, hargs _ hold, hvars _ hold, World.keptBut_mono (fun p hp => ⟨hp, ?_⟩) (hb.frame (· ∈ before)), fun _ => ?_⟩
  · rw [hps, List.mem_append] at hp
    exact Or.inr hp
  · obtain ⟨_, _, _, _, _, hz, hn⟩ := hW
    refine ⟨hok, _, _, ([] ++ pa) ++ pv, ⟨[] ++ pa, pv, trodAll_append (hargs _ (fun _ _ => rfl)) (hres _ _ _), hvars _ (fun _ _ => rfl), rfl, ?_, ?_⟩, ?_⟩
    · intro b off hp
      have hin : MemPlace.cell b off ∈ before := by rw [hps]; simpa using hp
      rw [hb.frozen (hlt _ hin)]
      exact hz b off hin
    · intro ha
      have := hn ha
      rw [hps] at this
      simpa using this
    · intro p hp _
      rw [hps]
      simpa using hp
end
end Go.Cx
