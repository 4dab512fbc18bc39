/- Regions whose order is drawn. -/
import Derived.Test.YtjaeanhgcijfoaaGreatDoorCxQuiet
set_option linter.unusedSimpArgs false
set_option linter.unusedVariables false
namespace Go.Cx
open Go.RowKit
section
variable {β : Type} {P : Program} {cr : Option FuncId → Option CR} {Gl : World → Prop} {B0 ro : Nat} {w0 w w' : World} {g0 g g' : G} {o : Oper} {a : Act} {st : St} {x : β} {C : Caller} {arr : Array Oper}

theorem set_bool {j : Nat} {b : Bool} (hj : st.env.getD j .any = .pv (.bool b)) : { st with env := st.env.set j (.pv (.bool b)) } = st := by
  have : st.env.set j (.pv (.bool b)) = st.env := by
    apply List.ext_getElem?
    intro i
    rw [List.getElem?_set]
    split
    · rename_i h; subst h
      split
      · rename_i h
        have : st.env.getD j .any = st.env[j] := by simp [List.getD, h]
        rw [← hj, this]; simp [h]
      · rename_i h; simp at h; simp [h]
    · rfl
  rw [this]

/-- An operation, or what is put in its place. -/
def goIn (C : Caller) (ro : Nat) (i : AIn) (st : St) (K : St → Option β) : Option β := evOp C ro i.op st fun st v => K (st.put i.dst v)
def noIn (i : AIn) (st : St) (K : St → Option β) : Option β := K (st.put i.dst (.pv (.tup [])))

theorem evIn_eq (i : AIn) (K : St → Option β) : evIn C ro i st K = (match i.guard with
    | none => goIn C ro i st K
    | some (j, want) => match st.env.getD j .any with
      | .pv (.bool b) => cond (b == want) (goIn C ro i st K) (noIn i st K)
      | .pv (.tup _) => noIn i st K
      | _ => none) := by
  unfold evIn
  cases hg : i.guard with
  | none => rfl
  | some jw =>
    obtain ⟨j, want⟩ := jw
    simp only
    split
    · rename_i b hb
      rw [hb]
      cases b <;> simp only [cond, set_bool hb] <;> cases want <;> rfl
    · rename_i c hb
      rw [hb]; rfl
    · split <;> first | rfl | (exfalso; simp_all)

def St.sets (st : St) (l : List (Nat × AV)) : St := l.foldl (fun st p => st.setE p.1 p.2) st

theorem put_setE {d : Nat} {v r : AV} {dst : Option Nat} (h : dst ≠ some d) : (st.setE d v).put dst r = (st.put dst r).setE d v := by
  cases dst with
  | none => rfl
  | some k =>
    have hk : k ≠ d := fun e => h (by rw [e])
    simp only [St.put, St.setE]
    rw [List.set_comm _ _ hk.symm]

theorem hitIds_setE {o : AOp} {d : Nat} {v : AV} (h : d ∉ o.slots) : hitIds o (st.setE d v) = hitIds o st := by
  cases o <;> simp only [AOp.slots, List.mem_append, not_or] at h <;> simp only [hitIds]
  case store n a z => rw [get_setE h.1]
  case load ts t tk a =>
    cases ts <;> cases tk <;> simp only [hitIds]
    rw [get_setE h]
  case call z as r =>
    cases r <;> simp only [hitIds]
    rw [get_setE h.1, map_get_setE h.2]
    rfl

theorem chkAll_setE {l : List Nat} {d : Nat} {v : AV} : ∀ {chk : List AO}, d ∉ AO.slotsL chk →
    (chk.all fun b => match (st.setE d v).get b with | .ptr o' _ => !(l.contains o') | .rp _ => true | _ => false) = (chk.all fun b => match st.get b with | .ptr o' _ => !(l.contains o') | .rp _ => true | _ => false)
  | [], _ => rfl
  | c :: r, hl => by
    have h1 : d ∉ c.slots := fun hm => hl (by simp [AO.slotsL, hm])
    have h2 : d ∉ AO.slotsL r := fun hm => hl (by simp only [AO.slotsL, List.flatMap_cons, List.mem_append]; exact .inr hm)
    simp only [List.all_cons, get_setE h1, chkAll_setE h2]

theorem evD_setE {i : DIn} {d : Nat} {v : AV} {K : St → Option β} (h : d ∉ i.slots) (hw : d ∉ i.ai.writes) : evD C ro i (st.setE d v) K = evD C ro i st (fun st' => K (st'.setE d v)) := by
  have hdst : i.ai.dst ≠ some d := by
    intro hd
    exact hw (by simp [AIn.writes, hd])
  have hop : d ∉ i.ai.op.slots := fun hm => h (by simp [DIn.slots, AIn.slots, hm])
  have hchk : d ∉ AO.slotsL i.chk := fun hm => h (by simp [DIn.slots, hm])
  have e1 : okChk i (st.setE d v) = okChk i st := by
    unfold okChk
    rw [hitIds_setE hop]
    split
    · rename_i l _
      exact chkAll_setE hchk
    · rfl
  have er : okRoot i (st.setE d v) = okRoot i st := by
    unfold okRoot
    split
    · rename_i ts t tk b r ho hr
      have hb : d ∉ b.slots := fun hm => hop (by rw [ho]; simp [AOp.slots, hm])
      have hr' : d ∉ r.slots := fun hm => h (by simp [DIn.slots, hr, AO.slotsO, hm])
      rw [get_setE hb, get_setE hr']
    · rfl
  have e2 : goIn C ro i.ai (st.setE d v) K = goIn C ro i.ai st (fun st' => K (st'.setE d v)) := by
    unfold goIn
    rw [evOp_setE hop]
    congr 1
    funext st' r
    rw [put_setE hdst]
  have e3 : noIn i.ai (st.setE d v) K = noIn i.ai st (fun st' => K (st'.setE d v)) := by
    unfold noIn
    rw [put_setE hdst]
  unfold evD
  rw [er, e1, evIn_eq, evIn_eq, e2, e3]
  cases hg : i.ai.guard with
  | none => rfl
  | some jw =>
    obtain ⟨j, want⟩ := jw
    have hj : d ≠ j := fun e => h (by simp [DIn.slots, AIn.slots, hg, e])
    have : (st.setE d v).env.getD j .any = st.env.getD j .any := by
      simp only [St.setE, List.getD_eq_getElem?_getD]
      rw [List.getElem?_set_ne hj]
    simp only [this]

theorem evD_sets {i : DIn} : ∀ {l : List (Nat × AV)} {st : St} {K : St → Option β}, (∀ p ∈ l, p.1 ∉ i.slots ∧ p.1 ∉ i.ai.writes) → evD C ro i (st.sets l) K = evD C ro i st (fun st' => K (st'.sets l))
  | [], st, K, h => rfl
  | p :: l, st, K, h => by
    have h1 := h p (by simp)
    show evD C ro i ((st.setE p.1 p.2).sets l) K = _
    rw [evD_sets fun q hq => h q (by simp [hq]), evD_setE h1.1 h1.2]
    rfl

/-- What running one leaves as it is. -/
structure EffD (i : DIn) (st st' : St) : Prop where
  env : ∀ s, s ∉ i.ai.writes → st'.env[s]? = st.env[s]?
  objs : ∀ j, j < st.objs.length → (∀ l, hitIds i.ai.op st = some l → l.contains j = false) → st'.objs[j]? = st.objs[j]?

theorem put_env {d : Option Nat} {v : AV} {s : Nat} (h : d ≠ some s) : (st.put d v).env[s]? = st.env[s]? := by
  cases d with
  | none => rfl
  | some k =>
    have : k ≠ s := fun e => h (by rw [e])
    simp only [St.put]
    rw [List.getElem?_set_ne this]
theorem put_objs {d : Option Nat} {v : AV} : (st.put d v).objs = st.objs := by cases d <;> rfl

theorem evD_mono {i : DIn} (ht : i.ai.op.tame = true) {K K' : St → Option β} (h : evD C ro i st K = some x) (hk : okChk i st = true → ∀ st', EffD i st st' → K st' = some x → K' st' = some x) : evD C ro i st K' = some x := by
  unfold evD at h ⊢
  obtain ⟨hc, h⟩ := cond_some_none h
  rw [hc]
  simp only [cond]
  have hc : okChk i st = true := (Bool.and_eq_true_iff.1 hc).2
  have hdst : ∀ s, s ∉ i.ai.writes → i.ai.dst ≠ some s := fun s hs hd => hs (by simp [AIn.writes, hd])
  have hdr : ∀ s, s ∉ i.ai.writes → s ∉ i.ai.op.drops := fun s hs hd => hs (by simp [AIn.writes, hd])
  have h1 : goIn C ro i.ai st K = some x → goIn C ro i.ai st K' = some x := by
    intro h
    unfold goIn at h ⊢
    refine evOp_mono ht h fun st' v he hk' => hk hc _ ⟨fun s hs => ?_, fun j hj hne => ?_⟩ hk'
    · rw [put_env (hdst s hs)]; exact he.env s (hdr s hs)
    · rw [put_objs]; exact he.objs j hj hne
  have h2 : noIn i.ai st K = some x → noIn i.ai st K' = some x := by
    intro h
    unfold noIn at h ⊢
    exact hk hc _ ⟨fun s hs => put_env (hdst s hs), fun j hj hne => by rw [put_objs]⟩ h
  rw [evIn_eq] at h ⊢
  split at h
  · exact h1 h
  · split at h
    · exact cond_mono h h1 h2
    · exact h2 h
    · cases h

theorem disj_spec {a b : List Nat} (h : disj a b = true) {s : Nat} (ha : s ∈ a) : s ∉ b := by
  unfold disj at h
  have := List.all_eq_true.1 h s ha
  simpa using this

theorem Agree.mapGet {l : List AO} {st2 : St} (h : Agree (AO.slotsL l) st2 st) : l.map st2.get = l.map st.get :=
  List.map_congr_left fun z hz => Agree.get fun s hs => h s (List.mem_flatMap.2 ⟨z, hz, hs⟩)

theorem chkAll_agree {l : List Nat} {st2 : St} : ∀ {chk : List AO}, Agree (AO.slotsL chk) st2 st →
    (chk.all fun b => match st2.get b with | .ptr o' _ => !(l.contains o') | .rp _ => true | _ => false) = (chk.all fun b => match st.get b with | .ptr o' _ => !(l.contains o') | .rp _ => true | _ => false)
  | [], _ => rfl
  | c :: r, hl => by
    have h1 : Agree c.slots st2 st := fun s hs => hl s (by simp [AO.slotsL, hs])
    have h2 : Agree (AO.slotsL r) st2 st := fun s hs => hl s (by simp only [AO.slotsL, List.flatMap_cons, List.mem_append]; exact .inr hs)
    simp only [List.all_cons, h1.get, chkAll_agree h2]

/-- What is checked of a quiet one, or a load, hangs on its slots. -/
theorem okChk_agree {p : DIn} {st2 : St} (hq : (p.ai.op.quiet || p.ai.op.takes) = true) (h : Agree p.slots st2 st) : okChk p st2 = okChk p st := by
  have h1 : Agree p.ai.op.slots st2 st := fun s hs => h s (by simp [DIn.slots, AIn.slots, hs])
  have h2 : Agree (AO.slotsL p.chk) st2 st := fun s hs => h s (by simp [DIn.slots, hs])
  have e : hitIds p.ai.op st2 = hitIds p.ai.op st := by
    generalize p.ai.op = o at hq h1
    cases o <;> simp only [hitIds]
    case store n a z => simp [AOp.quiet, AOp.takes] at hq
    case load ts t tk a =>
      cases ts <;> cases tk <;> simp only [hitIds]
      rw [Agree.get (z := a) h1]
    case call z as r => simp [AOp.quiet, AOp.takes] at hq
  unfold okChk
  rw [e]
  split
  · exact chkAll_agree h2
  · rfl

theorem okRoot_agree {p : DIn} {st2 : St} (h : Agree p.slots st2 st) : okRoot p st2 = okRoot p st := by
  unfold okRoot
  split
  · rename_i ts t tk b r ho hr
    have h1 : Agree b.slots st2 st := fun s hs => h s (by simp [DIn.slots, AIn.slots, ho, AOp.slots, hs])
    have h2 : Agree r.slots st2 st := fun s hs => h s (by simp [DIn.slots, hr, AO.slotsO, hs])
    rw [h1.get, h2.get]
  · rfl

/-- What is checked tells what is not hit. -/
theorem noHit {p i : DIn} {b : AO} (hb : p.ai.op.from? = some b) (hld : (!i.ai.op.hits || (match p.root with | some r => i.chk.any (sameAO r) | none => false)) = true) (hroot : okRoot p st = true) (hc : okChk i st = true) {j off : Nat} (hj : st.get b = .ptr j off) :
    ∀ l, hitIds i.ai.op st = some l → l.contains j = false := by
  intro l hl
  cases hh : i.ai.op.hits with
  | false =>
    have : l = [] := by
      generalize i.ai.op = o at hh hl
      cases o <;> simp only [hitIds] at hl <;> try (cases hl; rfl)
      case store n a z => simp [AOp.hits] at hh
      case load ts t tk a =>
        cases ts <;> cases tk <;> simp only [hitIds] at hl <;> try (cases hl; rfl)
        simp [AOp.hits] at hh
      case call z as r =>
        cases r <;> simp only [hitIds] at hl <;> try (cases hl; rfl)
        simp [AOp.hits] at hh
    subst this; rfl
  | true =>
    rw [hh] at hld
    simp only [Bool.not_true, Bool.false_or] at hld
    cases hr : p.root with
    | none => rw [hr] at hld; cases hld
    | some r =>
      rw [hr] at hld
      simp only [List.any_eq_true] at hld
      obtain ⟨c, hcm, hcb⟩ := hld
      have : c = r := by
        cases r with
        | t i => cases c with
          | t k => exact congrArg AO.t (Nat.eq_of_beq_eq_true hcb).symm
          | c v => cases hcb
        | c v => cases hcb
      subst this
      have hrj : ∃ off', st.get c = .ptr j off' := by
        generalize ho : p.ai.op = o at hb
        cases o <;> simp only [AOp.from?] at hb <;> try cases hb
        unfold okRoot at hroot
        simp only [ho, hr, hj] at hroot
        cases hg : st.get c <;> rw [hg] at hroot <;> try cases hroot
        exact ⟨_, by rw [Nat.eq_of_beq_eq_true hroot]⟩
      obtain ⟨off', hrj⟩ := hrj
      unfold okChk at hc
      rw [hl] at hc
      have := List.all_eq_true.1 hc c hcm
      rw [hrj] at this
      simpa using this

theorem evD_setO {i : DIn} (ht : i.ai.op.tame = true) {j : Nat} {c c' : List AV} {K : St → Option β} (hj : st.objs[j]? = some (.cells c)) (hv : c'.map AV.view = c.map AV.view)
    (hn : okChk i st = true → ∀ l, hitIds i.ai.op st = some l → l.contains j = false) (h : evD C ro i (st.setO j (.cells c')) K = some x) : okChk i st = true ∧ evD C ro i st (fun st' => K (st'.setO j (.cells c'))) = some x := by
  have hget : (st.setO j (.cells c')).get = st.get := funext fun z => by cases z <;> rfl
  have hlen : (st.objs.set j (.cells c')).length = st.objs.length := by simp
  have e0 : hitIds i.ai.op (st.setO j (.cells c')) = hitIds i.ai.op st := by
    generalize i.ai.op = o
    have eo : (st.setO j (.cells c')).objs = st.objs.set j (.cells c') := rfl
    cases o <;> simp only [hitIds, hget]
    case load ts t tk a => cases ts <;> cases tk <;> simp only [hitIds, hget]
    case call z as r =>
      cases r <;> simp only [hitIds, hget, eo, (alike_set hj hv).lendIds hlen]
  have e1 : okChk i (st.setO j (.cells c')) = okChk i st := by
    unfold okChk
    rw [e0, hget]
  have er : okRoot i (st.setO j (.cells c')) = okRoot i st := by
    unfold okRoot
    rw [hget]
  unfold evD at h ⊢
  rw [e1, er] at h
  obtain ⟨hcc, h⟩ := cond_some_none h
  have hc : okChk i st = true := (Bool.and_eq_true_iff.1 hcc).2
  refine ⟨hc, ?_⟩
  rw [hcc]
  simp only [cond]
  have e2 : goIn C ro i.ai (st.setO j (.cells c')) K = goIn C ro i.ai st (fun st' => K (st'.setO j (.cells c'))) := by
    unfold goIn
    rw [evOp_setO ht hj hv (hn hc)]
    congr 1
    funext st' v
    cases i.ai.dst <;> rfl
  have e3 : noIn i.ai (st.setO j (.cells c')) K = noIn i.ai st (fun st' => K (st'.setO j (.cells c'))) := by
    unfold noIn
    cases i.ai.dst <;> rfl
  rw [evIn_eq] at h ⊢
  rw [e2, e3] at h
  exact h

/-- A load that takes: what comes of it. -/
theorem evOp_take {t : CT} {b : AO} {K : St → AV → Option β} (h : evOp C ro (.load none t true b) st K = some x) :
    (∃ v, K st v = some x ∧ ∀ st2 : St, st2.get b = st.get b → (∀ j off, st.get b = .ptr j off → j < st.objs.length → st2.objs[j]? = st.objs[j]?) → ∀ (γ : Type) (K' : St → AV → Option γ), evOp C ro (.load none t true b) st2 K' = K' st2 v) ∨
    (∃ j off c, st.get b = .ptr j off ∧ st.objs[j]? = some (.cells c) ∧ K (st.setO j (.cells (c.set off (c.getD off .any).view))) (c.getD off .any) = some x ∧
      ∀ st2 : St, st2.get b = st.get b → st2.objs[j]? = st.objs[j]? → ∀ (γ : Type) (K' : St → AV → Option γ), evOp C ro (.load none t true b) st2 K' = K' (st2.setO j (.cells (c.set off (c.getD off .any).view))) (c.getD off .any)) := by
  simp only [evOp] at h
  split at h
  · rename_i o off ho
    split at h
    · rename_i c hc
      obtain ⟨hb, h⟩ := cond_some_none h
      cases hr : Nat.ble ro o with
      | true =>
        rw [hr] at h
        refine .inr ⟨o, off, c, ho, hc, h, fun st2 h1 h2 γ K' => ?_⟩
        simp only [evOp, h1, ho, h2, hc, hb, hr, Bool.and_self, cond]
        rfl
      | false =>
        rw [hr] at h
        refine .inl ⟨_, h, fun st2 h1 h2 γ K' => ?_⟩
        simp only [evOp, h1, ho, h2 o off ho (List.getElem?_eq_some_iff.1 hc).1, hc, hb, hr, Bool.and_false, cond]
    · cases h
  · rename_i c ho
    rw [asC_bind] at h
    obtain ⟨p, hp, h⟩ := Option.bind_eq_some_iff.1 h
    refine .inl ⟨_, h, fun st2 h1 h2 γ K' => ?_⟩
    simp only [evOp, h1, ho]
    rw [asC_bind, hp]; rfl
  · cases h

/-- A quiet one, or a load that takes, is overtaken. -/
theorem swap {p i : DIn} (h : indep p i = true) {K : St → Option β} (he : evD C ro p st (fun st1 => evD C ro i st1 K) = some x) : evD C ro i st (fun st1 => evD C ro p st1 K) = some x := by
  unfold indep at h
  simp only [Bool.and_eq_true] at h
  obtain ⟨⟨⟨⟨⟨hq, ht⟩, d1⟩, d2⟩, d3⟩, hld⟩ := h
  have hcp : (okRoot p st && okChk p st) = true ∧ evIn C ro p.ai st (fun st1 => evD C ro i st1 K) = some x := by
    unfold evD at he
    exact cond_some_none he
  obtain ⟨hcp, he⟩ := hcp
  have hroot : okRoot p st = true := (Bool.and_eq_true_iff.1 hcp).1
  have hagS : ∀ st', EffD i st st' → Agree p.slots st' st := fun st' hE s hs => hE.env s fun hw => disj_spec d3 hw hs
  have hpD : ∀ st', EffD i st st' → evIn C ro p.ai st' K = some x → evD C ro p st' K = some x := by
    intro st' hE h
    unfold evD
    rw [okRoot_agree (hagS st' hE), okChk_agree hq (hagS st' hE), hcp]
    exact h
  rw [evIn_eq] at he
  have hputL : ∀ v : AV, ∃ L : List (Nat × AV), (∀ q ∈ L, q.1 ∈ p.ai.writes) ∧ ∀ st : St, st.put p.ai.dst v = st.sets L := by
    intro v
    cases hd : p.ai.dst with
    | none => exact ⟨[], (fun q hq => by simp at hq), fun st => rfl⟩
    | some d => exact ⟨[(d, v)], (fun q hq => by simp at hq; subst hq; simp [AIn.writes, hd]), fun st => rfl⟩
  -- it is passed over
  have hno : noIn p.ai st (fun st1 => evD C ro i st1 K) = some x → (∀ st', EffD i st st' → noIn p.ai st' K = some x → evIn C ro p.ai st' K = some x) → evD C ro i st (fun st1 => evD C ro p st1 K) = some x := by
    intro he hst
    unfold noIn at he
    obtain ⟨L, hLw, hL⟩ := hputL (.pv (.tup []))
    rw [hL] at he
    change evD C ro i (st.sets L) K = some x at he
    rw [evD_sets fun q hq => ⟨disj_spec d1 (hLw q hq), disj_spec d2 (hLw q hq)⟩] at he
    exact evD_mono ht he fun _ st' hE hk => hpD st' hE (hst st' hE (by unfold noIn; rw [hL]; exact hk))
  -- it runs
  have hgo : goIn C ro p.ai st (fun st1 => evD C ro i st1 K) = some x → (∀ st', EffD i st st' → goIn C ro p.ai st' K = some x → evIn C ro p.ai st' K = some x) → evD C ro i st (fun st1 => evD C ro p st1 K) = some x := by
    intro he hst
    unfold goIn at he
    cases hqq : p.ai.op.quiet with
    | true =>
      obtain ⟨v, hk, hT⟩ := evOp_quiet hqq he
      have hL : ∃ L : St → List (Nat × AV), (∀ st, ∀ q ∈ L st, q.1 ∈ p.ai.writes) ∧ (∀ st : St, (dropSt p.ai.op st).put p.ai.dst v = st.sets (L st)) ∧ ∀ st st' : St, Agree p.ai.op.slots st' st → L st' = L st := by
        have hD : ∃ L : St → List (Nat × AV), (∀ st, ∀ q ∈ L st, q.1 ∈ p.ai.op.drops) ∧ (∀ st : St, dropSt p.ai.op st = st.sets (L st)) ∧ ∀ st st' : St, Agree p.ai.op.slots st' st → L st' = L st := by
          by_cases hmv : ∃ z, p.ai.op = .mv true (.t z)
          · obtain ⟨z, hz⟩ := hmv
            refine ⟨fun st => [(z, (st.env.getD z .any).view)], (fun st q hq => by simp at hq; subst hq; simp [hz, AOp.drops, AO.slots]), fun st => by rw [hz]; rfl, fun st st' ha => ?_⟩
            have := ha z (by simp [hz, AOp.slots, AO.slots])
            simp only [List.getD_eq_getElem?_getD, this]
          · refine ⟨fun st => [], (fun st q hq => by simp at hq), fun st => ?_, fun _ _ _ => rfl⟩
            unfold dropSt
            split
            · rename_i z hz
              cases z with
              | t i => exact absurd ⟨i, hz⟩ hmv
              | c v => rfl
            · rfl
        obtain ⟨L, l1, l2, l3⟩ := hD
        cases hd : p.ai.dst with
        | none => exact ⟨L, (fun st q hq => by simp [AIn.writes, l1 st q hq]), fun st => by rw [l2]; rfl, l3⟩
        | some d =>
          refine ⟨fun st => L st ++ [(d, v)], (fun st q hq => ?_), fun st => ?_, fun st st' ha => by simp only [l3 st st' ha]⟩
          · rcases List.mem_append.1 hq with hq | hq
            · simp [AIn.writes, l1 st q hq]
            · simp at hq; subst hq; simp [AIn.writes, hd]
          · rw [l2]
            simp only [St.sets, List.foldl_append, List.foldl_cons, List.foldl_nil]
            rfl
      obtain ⟨L, hLw, hL, hLs⟩ := hL
      rw [hL] at hk
      change evD C ro i (st.sets (L st)) K = some x at hk
      rw [evD_sets fun q hq => ⟨disj_spec d1 (hLw st q hq), disj_spec d2 (hLw st q hq)⟩] at hk
      refine evD_mono ht hk fun hc st' hE hk => hpD st' hE (hst st' hE ?_)
      have hag : Agree p.ai.op.slots st' st := fun s hs => hagS st' hE s (by simp [DIn.slots, AIn.slots, hs])
      unfold goIn
      rw [hT st' hag fun ts t tk b j off ho hb hj => hE.objs j hj (by
        have hf : p.ai.op.from? = some b := by rw [ho]; rfl
        rw [hf] at hld
        exact noHit hf hld hroot hc hb)]
      rw [hL, hLs st st' hag]; exact hk
    | false =>
      rw [hqq] at hq
      simp only [Bool.false_or] at hq
      obtain ⟨t, b, hop⟩ : ∃ t b, p.ai.op = .load none t true b := by
        generalize p.ai.op = o at hq
        unfold AOp.takes at hq
        split at hq
        · exact ⟨_, _, rfl⟩
        · cases hq
      have hf : p.ai.op.from? = some b := by rw [hop]; rfl
      rw [hf] at hld
      rw [hop] at he
      have hgb : ∀ st', EffD i st st' → st'.get b = st.get b := fun st' hE => Agree.get fun s hs => hagS st' hE s (by simp [DIn.slots, AIn.slots, hop, AOp.slots, hs])
      rcases evOp_take he with ⟨v, hk, hT⟩ | ⟨j, off, c, hb, hc0, hk, hT⟩
      · obtain ⟨L, hLw, hL⟩ := hputL v
        rw [hL] at hk
        change evD C ro i (st.sets L) K = some x at hk
        rw [evD_sets fun q hq => ⟨disj_spec d1 (hLw q hq), disj_spec d2 (hLw q hq)⟩] at hk
        refine evD_mono ht hk fun hc st' hE hk => hpD st' hE (hst st' hE ?_)
        unfold goIn
        rw [hop, hT st' (hgb st' hE) (fun j off hj hlt => hE.objs j hlt (noHit hf hld hroot hc hj)), hL]
        exact hk
      · obtain ⟨L, hLw, hL⟩ := hputL (c.getD off .any)
        rw [hL] at hk
        change evD C ro i ((st.setO j _).sets L) K = some x at hk
        rw [evD_sets fun q hq => ⟨disj_spec d1 (hLw q hq), disj_spec d2 (hLw q hq)⟩] at hk
        have hlt : j < st.objs.length := (List.getElem?_eq_some_iff.1 hc0).1
        have hvv : (c.set off (c.getD off .any).view).map AV.view = c.map AV.view := by
          rw [List.map_set, view_view]
          apply List.ext_getElem?
          intro k
          rw [List.getElem?_set]
          split
          · rename_i hk; subst hk
            split
            · rename_i hl
              rw [getD_view]
              have hl : off < (c.map AV.view).length := by simpa using hl
              simp only [List.getD_eq_getElem?_getD, List.getElem?_eq_getElem hl, Option.getD_some]
            · rename_i hl
              rw [List.getElem?_eq_none (by omega)]
          · rfl
        obtain ⟨hc, hk⟩ := evD_setO ht hc0 hvv (fun hc => noHit hf hld hroot hc hb) hk
        refine evD_mono ht hk fun hc st' hE hk => hpD st' hE (hst st' hE ?_)
        unfold goIn
        rw [hop, hT st' (hgb st' hE) (hE.objs j hlt (noHit hf hld hroot hc hb)), hL]
        exact hk
  cases hg : p.ai.guard with
  | none =>
    rw [hg] at he
    refine hgo he fun st' hE h => ?_
    rw [evIn_eq, hg]; exact h
  | some jw =>
    obtain ⟨j, want⟩ := jw
    rw [hg] at he
    simp only at he
    have hsame : ∀ st', EffD i st st' → st'.env.getD j .any = st.env.getD j .any := by
      intro st' hE
      simp only [List.getD_eq_getElem?_getD]
      rw [hE.env j fun hw => disj_spec d3 hw (by simp [DIn.slots, AIn.slots, hg])]
    split at he
    · rename_i b hb
      cases hbw : b == want with
      | true =>
        rw [hbw] at he
        refine hgo he fun st' hE h => ?_
        rw [evIn_eq, hg]
        simp only [hsame st' hE, hb, hbw, cond]
        exact h
      | false =>
        rw [hbw] at he
        refine hno he fun st' hE h => ?_
        rw [evIn_eq, hg]
        simp only [hsame st' hE, hb, hbw, cond]
        exact h
    · rename_i c hb
      refine hno he fun st' hE h => ?_
      rw [evIn_eq, hg]
      simp only [hsame st' hE, hb]
      exact h
    · cases he

theorem move_first {i : DIn} {K : St → Option β} {post : List DIn} : ∀ {pre : List DIn} {st : St}, (∀ p ∈ pre, indep p i = true) → evDs C ro (pre ++ i :: post) st K = some x → evD C ro i st (fun st => evDs C ro (pre ++ post) st K) = some x
  | [], st, _, h => h
  | p :: pre, st, hall, h => by
    simp only [List.cons_append, evDs] at h
    have hp := hall p (by simp)
    have htp : p.ai.op.tame = true := by
      unfold indep at hp
      simp only [Bool.and_eq_true] at hp
      have hq := hp.1.1.1.1.1
      cases hqq : p.ai.op.quiet with
      | true => unfold AOp.tame; split <;> first | rfl | exact hqq
      | false =>
        rw [hqq] at hq
        simp only [Bool.false_or] at hq
        unfold AOp.takes at hq
        split at hq
        · rename_i heq; rw [heq]; rfl
        · cases hq
    have := evD_mono htp h (K' := fun st1 => evD C ro i st1 (fun st => evDs C ro (pre ++ post) st K)) fun _ st' _ hk => move_first (fun q hq => hall q (by simp [hq])) hk
    exact swap hp this

theorem okPairs_get {ops : List Oper} : ∀ {l pre post : List (Nat × DIn)} {i : Nat × DIn}, okPairs ops l = true → l = pre ++ i :: post → ∀ p ∈ pre, ancB ops ops.length p.1 i.1 = true ∨ indep p.2 i.2 = true
  | l, [], post, i, _, _, p, hp => by simp at hp
  | l, q :: pre, post, i, h, hl, p, hp => by
    subst hl
    simp only [List.cons_append, okPairs, Bool.and_eq_true] at h
    rcases List.mem_cons.1 hp with rfl | hp
    · have := List.all_eq_true.1 h.1 i (by simp)
      simpa using this
    · exact okPairs_get h.2 rfl p hp
theorem okPairs_del {ops : List Oper} : ∀ {pre post : List (Nat × DIn)} {i : Nat × DIn}, okPairs ops (pre ++ i :: post) = true → okPairs ops (pre ++ post) = true
  | [], post, i, h => by simp only [List.nil_append, okPairs, Bool.and_eq_true] at h; exact h.2
  | q :: pre, post, i, h => by
    simp only [List.cons_append, okPairs, Bool.and_eq_true] at h ⊢
    refine ⟨List.all_eq_true.2 fun z hz => List.all_eq_true.1 h.1 z ?_, okPairs_del h.2⟩
    rcases List.mem_append.1 hz with hz | hz
    · exact List.mem_append_left _ hz
    · exact List.mem_append_right _ (List.mem_cons_of_mem _ hz)

/-- What has come up is closed under waiting. -/
def Closed (arr : Array Oper) (listed : Array Bool) : Prop := ∀ i o, arr[i]? = some o → listed.getD i false = true → ∀ e ∈ o.after, Region.binds .any e = true → listed.getD e.on false = true

theorem anc_listed {listed : Array Bool} (hcl : Closed arr listed) : ∀ (n p i : Nat) (o : Oper), arr[i]? = some o → (∀ e ∈ o.after, Region.binds .any e = true → listed.getD e.on false = true) → ancB arr.toList n p i = true → listed.getD p false = true
  | 0, p, i, o, _, _, h => by simp [ancB] at h
  | n + 1, p, i, o, ho, hall, h => by
    simp only [ancB] at h
    rw [Array.getElem?_toList, ho] at h
    simp only [List.any_eq_true, Bool.and_eq_true, Bool.or_eq_true] at h
    obtain ⟨e, he, hb, h⟩ := h
    have hl := hall e (Array.mem_toList_iff.1 he) hb
    rcases h with h | h
    · rw [← Nat.eq_of_beq_eq_true h]; exact hl
    · cases ho' : arr[e.on]? with
      | none =>
        cases n with
        | zero => simp [ancB] at h
        | succ n => simp only [ancB] at h; rw [Array.getElem?_toList, ho'] at h; cases h
      | some o' => exact anc_listed hcl n p e.on o' ho' (hcl e.on o' ho' hl) h

/-- Each waits for what comes before it only. -/
def Ordered (arr : Array Oper) (listed : Array Bool) (items : List (Nat × DIn)) : Prop :=
  ∀ pre i post, items = pre ++ i :: post → ∀ o, arr[i.1]? = some o → ∀ e ∈ o.after, Region.binds .any e = true → listed.getD e.on false = true ∨ ∃ p ∈ pre, p.1 = e.on

structure Items (P : Program) (cr : Option FuncId → Option CR) (arr : Array Oper) (listed : Array Bool) (items : List (Nat × DIn)) : Prop where
  size : listed.size = arr.size
  closed : Closed arr listed
  all : ∀ j, j < arr.size → (listed.getD j true = false ↔ ∃ p ∈ items, p.1 = j)
  nodup : (items.map (·.1)).Nodup
  pairs : okPairs arr.toList items = true
  order : Ordered arr listed items
  tr : ∀ p ∈ items, ∃ o, arr[p.1]? = some o ∧ trIn P cr arr.toList o = some p.2.ai

theorem Items.del {listed : Array Bool} {pre post : List (Nat × DIn)} {i : Nat × DIn} (h : Items P cr arr listed (pre ++ i :: post)) (hr : i.1 ∈ Region.ready .any arr listed) :
    Items P cr arr (listed.setIfInBounds i.1 true) (pre ++ post) := by
  obtain ⟨hun, o, ho, hall⟩ := mem_ready.1 hr
  have hlt : i.1 < arr.size := (Array.getElem?_eq_some_iff.1 ho).1
  have hsub : ∀ p, p ∈ pre ++ post → p ∈ pre ++ i :: post := fun p hp => by
    rcases List.mem_append.1 hp with hp | hp
    · exact List.mem_append_left _ hp
    · exact List.mem_append_right _ (List.mem_cons_of_mem _ hp)
  have hnd := h.nodup
  rw [List.map_append, List.map_cons, List.nodup_append] at hnd
  obtain ⟨n1, n2, n3⟩ := hnd
  rw [List.nodup_cons] at n2
  have hne : ∀ p ∈ pre ++ post, p.1 ≠ i.1 := by
    intro p hp e
    rcases List.mem_append.1 hp with hp | hp
    · exact n3 p.1 (List.mem_map_of_mem hp) i.1 (by simp) e
    · exact n2.1 (by rw [← e]; exact List.mem_map_of_mem hp)
  refine ⟨by simp [h.size], fun j o' ho' hj e he hb => ?_, fun j hj => ?_, ?_, okPairs_del h.pairs, fun pre' k post' heq o' ho' e he hb => ?_, fun p hp => h.tr p (hsub p hp)⟩
  · by_cases hji : j = i.1
    · subst hji
      rw [ho] at ho'; cases ho'
      exact getD_set_true (hall e he hb)
    · rw [getD_set_ne false (Ne.symm hji)] at hj
      exact getD_set_true (h.closed j o' ho' hj e he hb)
  · by_cases hji : j = i.1
    · subst hji
      constructor
      · intro h2
        have : (listed.setIfInBounds i.1 true).getD i.1 true = true := by simp [Array.getD]
        rw [this] at h2; cases h2
      · rintro ⟨p, hp, e⟩; exact absurd e (hne p hp)
    · rw [getD_set_ne true (Ne.symm hji), h.all j hj]
      constructor
      · rintro ⟨p, hp, rfl⟩
        refine ⟨p, ?_, rfl⟩
        rcases List.mem_append.1 hp with hp | hp
        · exact List.mem_append_left _ hp
        · rcases List.mem_cons.1 hp with rfl | hp
          · exact absurd rfl hji
          · exact List.mem_append_right _ hp
      · rintro ⟨p, hp, rfl⟩; exact ⟨p, hsub p hp, rfl⟩
  · rw [List.map_append, List.nodup_append]
    exact ⟨n1, n2.2, fun a ha b hb => n3 a ha b (List.mem_cons_of_mem _ hb)⟩
  · -- the place in the longer list
    have hlong : ∃ pre2 post2, pre ++ i :: post = pre2 ++ k :: post2 ∧ ∀ p ∈ pre2, p = i ∨ p ∈ pre' := by
      rcases List.append_eq_append_iff.1 heq with ⟨c, h1, h2⟩ | ⟨c, h1, h2⟩
      · -- pre' = pre ++ c, post = c ++ k :: post'
        exact ⟨pre ++ i :: c, post', by rw [h2]; simp, fun p hp => by
          rcases List.mem_append.1 hp with hp | hp
          · exact .inr (by rw [h1]; exact List.mem_append_left _ hp)
          · rcases List.mem_cons.1 hp with rfl | hp
            · exact .inl rfl
            · exact .inr (by rw [h1]; exact List.mem_append_right _ hp)⟩
      · -- pre = pre' ++ c, k :: post' = c ++ post
        cases c with
        | nil =>
          simp only [List.append_nil] at h1
          simp only [List.nil_append] at h2
          exact ⟨pre ++ [i], post', by rw [← h2]; simp, fun p hp => by
            rcases List.mem_append.1 hp with hp | hp
            · exact .inr (by rw [← h1]; exact hp)
            · simp at hp; exact .inl hp⟩
        | cons z c =>
          simp only [List.cons_append, List.cons.injEq] at h2
          obtain ⟨rfl, h2⟩ := h2
          exact ⟨pre', c ++ i :: post, by rw [h1]; simp, fun p hp => .inr hp⟩
    obtain ⟨pre2, post2, hl, hmem⟩ := hlong
    rcases h.order pre2 k post2 hl o' ho' e he hb with h1 | ⟨p, hp, hpe⟩
    · exact .inl (getD_set_true h1)
    · rcases hmem p hp with hpi | hp'
      · left
        rw [← hpe, hpi]
        have : i.1 < listed.size := by rw [h.size]; exact hlt
        simp [Array.getD, this]
      · exact .inr ⟨p, hp', hpe⟩

theorem any_sound (cx : Ctx P Gl B0 C w0 g0) {K : St → Option β} {Q : Exit → Act → World → Prop} (hK : ∀ st' a' w' g', K st' = some x → RS ro w0 g0 a' w' st' g' → Q .normal a' w') :
    ∀ (fuel : Nat) (items : List (Nat × DIn)) (listed : Array Bool) (a : Act) (w : World) (st : St) (g : G), items.length ≤ fuel → Items P cr arr listed items → evDs C ro (items.map (·.2)) st K = some x → RS ro w0 g0 a w st g →
      wpAny P .any arr Q fuel listed a w := by
  have hnil : ∀ (items : List (Nat × DIn)) (listed : Array Bool), Items P cr arr listed items → Region.ready .any arr listed = [] → items = [] := by
    intro items listed h hr
    cases items with
    | nil => rfl
    | cons i items =>
      exfalso
      obtain ⟨o, ho, _⟩ := h.tr i (by simp)
      have hlt : i.1 < arr.size := (Array.getElem?_eq_some_iff.1 ho).1
      have : i.1 ∈ Region.ready .any arr listed := by
        refine mem_ready.2 ⟨(h.all i.1 hlt).2 ⟨i, by simp, rfl⟩, o, ho, fun e he hb => ?_⟩
        rcases h.order [] i items rfl o ho e he hb with h1 | ⟨p, hp, _⟩
        · exact h1
        · simp at hp
      rw [hr] at this; cases this
  have hdone : ∀ (items : List (Nat × DIn)) (listed : Array Bool) (a : Act) (w : World) (st : St) (g : G), Items P cr arr listed items → evDs C ro (items.map (·.2)) st K = some x → RS ro w0 g0 a w st g → Region.ready .any arr listed = [] → Q .normal a w := by
    intro items listed a w st g h he hs hr
    have := hnil items listed h hr
    subst this
    exact hK _ _ _ _ he hs
  intro fuel
  induction fuel with
  | zero =>
    intro items listed a w st g hf h he hs
    have : items = [] := List.eq_nil_of_length_eq_zero (by omega)
    subst this
    have hr : Region.ready .any arr listed = [] := by
      cases hr : Region.ready .any arr listed with
      | nil => rfl
      | cons j r =>
        exfalso
        have hj : j ∈ Region.ready .any arr listed := by rw [hr]; simp
        obtain ⟨hun, o, ho, _⟩ := mem_ready.1 hj
        obtain ⟨p, hp, _⟩ := (h.all j (Array.getElem?_eq_some_iff.1 ho).1).1 hun
        simp at hp
    exact ⟨hr, hdone [] listed a w st g h he hs hr⟩
  | succ fuel ih =>
    intro items listed a w st g hf h he hs
    refine ⟨hdone items listed a w st g h he hs, fun j hj => ?_⟩
    obtain ⟨hun, o, ho, hall⟩ := mem_ready.1 hj
    obtain ⟨i, hi, rfl⟩ := (h.all j (Array.getElem?_eq_some_iff.1 ho).1).1 hun
    obtain ⟨pre, post, rfl⟩ := List.append_of_mem hi
    obtain ⟨o', ho', htr⟩ := h.tr i hi
    rw [ho] at ho'; cases ho'
    have hind : ∀ p ∈ pre, indep p.2 i.2 = true := by
      intro p hp
      rcases okPairs_get h.pairs rfl p hp with h1 | h1
      · exfalso
        have hl := anc_listed h.closed _ p.1 i.1 o ho hall h1
        obtain ⟨op, hop, _⟩ := h.tr p (List.mem_append_left _ hp)
        have hlt := (Array.getElem?_eq_some_iff.1 hop).1
        have hu := (h.all p.1 hlt).2 ⟨p, List.mem_append_left _ hp, rfl⟩
        have hsz : p.1 < listed.size := by rw [h.size]; exact hlt
        simp [Array.getD, hsz] at hl hu
        rw [hl] at hu; cases hu
      · exact h1
    rw [List.map_append, List.map_cons] at he
    have he := move_first (fun p hp => by
      obtain ⟨q, hq, rfl⟩ := List.mem_map.1 hp
      exact hind q hq) he
    unfold evD at he
    obtain ⟨_, he⟩ := cond_some_none he
    unfold wpOp
    rw [ho]
    refine snd_in cx htr he hs _ Q (fun st' a' w' g' hk hr => ?_)
    exact ih (pre ++ post) _ a' w' st' g' (by simp at hf ⊢; omega) (h.del hj) (by rw [List.map_append]; exact hk) hr


/-! ### The beginning -/

theorem nodupB_nodup : ∀ {l : List Nat}, nodupB l = true → l.Nodup
  | [], _ => List.nodup_nil
  | o :: r, h => by
    simp only [nodupB, Bool.and_eq_true, Bool.not_eq_true'] at h
    rw [List.nodup_cons]
    exact ⟨by simpa using h.1, nodupB_nodup h.2⟩

theorem mkDs_inv {ops : List Oper} {ais : List AIn} : ∀ {ord seen : List Nat} {ds : List (Nat × DIn)}, mkDs ops ais ord seen = some ds → ds.map (·.1) = ord ∧ ∀ p ∈ ds, ais[p.1]? = some p.2.ai
  | [], seen, ds, h => by simp only [mkDs] at h; cases h; exact ⟨rfl, fun p hp => by simp at hp⟩
  | i :: r, seen, ds, h => by
    simp only [mkDs] at h
    split at h
    · rename_i a l h1 h2
      cases h
      obtain ⟨e1, e2⟩ := mkDs_inv h2
      refine ⟨by simp [e1], fun p hp => ?_⟩
      rcases List.mem_cons.1 hp with rfl | hp
      · exact h1
      · exact e2 p hp
    · cases h

theorem trIns_get {ops : List Oper} : ∀ {os : List Oper} {ais : List AIn}, trIns P cr ops os = some ais → ∀ {j : Nat} {ai : AIn}, ais[j]? = some ai → ∃ o, os[j]? = some o ∧ trIn P cr ops o = some ai
  | [], ais, h, j, ai, hj => by simp only [trIns] at h; cases h; simp at hj
  | o :: os, ais, h, j, ai, hj => by
    simp only [trIns] at h
    split at h
    · rename_i a l h1 h2
      cases h
      cases j with
      | zero => simp at hj; subst hj; exact ⟨o, by simp, h1⟩
      | succ j => simp at hj; obtain ⟨o', h3, h4⟩ := trIns_get h2 hj; exact ⟨o', by simpa using h3, h4⟩
    · cases h

theorem okOrd_get {ops : List Oper} : ∀ {ord seen : List Nat}, okOrd ops ord seen = true → ∀ {pre post : List Nat} {i : Nat}, ord = pre ++ i :: post → ∀ o, ops[i]? = some o → ∀ e ∈ o.after, Region.binds .any e = true → e.on ∈ seen ++ pre
  | [], seen, h, pre, post, i, he, o, ho, e, hm, hb => by simp at he
  | j :: r, seen, h, pre, post, i, he, o, ho, e, hm, hb => by
    simp only [okOrd, Bool.and_eq_true] at h
    cases pre with
    | nil =>
      simp only [List.nil_append, List.cons.injEq] at he
      obtain ⟨rfl, rfl⟩ := he
      have h1 := h.1
      rw [ho] at h1
      have := List.all_eq_true.1 h1 e (Array.mem_toList_iff.2 hm)
      rw [hb] at this
      simpa using this
    | cons k pre =>
      simp only [List.cons_append, List.cons.injEq] at he
      obtain ⟨rfl, rfl⟩ := he
      have := okOrd_get h.2 rfl o ho e hm hb
      simpa using this

theorem snd_any (cx : Ctx P Gl B0 C w0 g0) {id : Nat} {ds : List DIn} {K : St → Option β} {Q : Exit → Act → World → Prop} (htr : trAny P cr arr.toList = some ds) (he : evDs C ro ds st K = some x) (hs : RS ro w0 g0 a w st g)
    (hK : ∀ st' a' w' g', K st' = some x → RS ro w0 g0 a' w' st' g' → Q .normal a' w') : (Code.region id arr true).wp P Q a w := by
  unfold trAny at htr
  split at htr
  case h_2 => cases htr
  rename_i ais hais
  simp only at htr
  split at htr
  case h_2 => cases htr
  rename_i items hitems
  split at htr
  case isFalse => cases htr
  rename_i hc
  cases htr
  simp only [Bool.and_eq_true] at hc
  obtain ⟨⟨⟨⟨⟨hm, hp⟩, hn⟩, hall⟩, hord⟩, hlen⟩ := hc
  obtain ⟨e1, e2⟩ := mkDs_inv hitems
  refine wp_region_any hm ?_
  have hlen' : items.length ≤ arr.size := by
    have := Nat.le_of_ble_eq_true hlen
    rw [← e1, List.length_map] at this
    simpa using this
  refine any_sound (cr := cr) cx hK arr.size items (Array.replicate arr.size false) a _ st g hlen' ?_ he (hs.sameHeap rfl rfl rfl rfl)
  refine ⟨by simp, fun i o ho hi => ?_, fun j hj => ?_, by rw [e1]; exact nodupB_nodup hn, hp, fun pre i post heq o ho e hm hb => .inr ?_, fun p hp => ?_⟩
  · simp only [Array.getD_eq_getD_getElem?, Array.getElem?_replicate] at hi
    split at hi <;> simp at hi
  · constructor
    · intro _
      have := List.all_eq_true.1 hall j (by simpa using hj)
      have hmem : j ∈ items.map (·.1) := by rw [e1]; simpa using this
      obtain ⟨p, hp, rfl⟩ := List.mem_map.1 hmem
      exact ⟨p, hp, rfl⟩
    · intro _; simp [Array.getD, hj]
  · have heq' : canon arr.toList ais arr.toList.length [] = pre.map (·.1) ++ i.1 :: post.map (·.1) := by rw [← e1, heq]; simp
    have := okOrd_get hord heq' o (by simpa using ho) e hm hb
    simp only [List.nil_append, List.mem_map] at this
    exact this
  · obtain ⟨o, ho, htr⟩ := trIns_get hais (e2 p hp)
    exact ⟨o, by simpa using ho, htr⟩
end
end Go.Cx
