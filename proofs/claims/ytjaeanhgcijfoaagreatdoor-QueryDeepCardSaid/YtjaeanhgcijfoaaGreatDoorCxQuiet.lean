/- Operations that may change places. -/
import Derived.Test.YtjaeanhgcijfoaaGreatDoorCxSound
set_option linter.unusedSimpArgs false
set_option linter.unusedVariables false
namespace Go.Cx
open Go.RowKit

def St.setE (st : St) (d : Nat) (v : AV) : St := { st with env := st.env.set d v }
/-- What a quiet operation leaves. -/
def dropSt (o : AOp) (st : St) : St := match o with | .mv true x => st.drop x | _ => st

structure Eff (o : AOp) (st st' : St) : Prop where
  env : ∀ s, s ∉ o.drops → st'.env[s]? = st.env[s]?
  objs : ∀ j, j < st.objs.length → (∀ l, hitIds o st = some l → l.contains j = false) → st'.objs[j]? = st.objs[j]?

theorem Eff.refl (o : AOp) (st : St) : Eff o st st := ⟨fun _ _ => rfl, fun _ _ _ => rfl⟩

section
variable {β γ : Type} {st st' st2 : St} {x y : β} {C : Caller} {ro : Nat}

/-! ### Readers hand on to whatever answers alike -/
theorem cond_mono {b : Bool} {p p' q q' : Option β} (h : cond b p q = some x) (h1 : p = some x → p' = some x) (h2 : q = some x → q' = some x) : cond b p' q' = some x := by
  cases b
  · exact h2 h
  · exact h1 h
theorem cond_none_mono {b : Bool} {p p' : Option β} (h : cond b p none = some x) (h1 : p = some x → p' = some x) : cond b p' none = some x := cond_mono h h1 id
theorem none_cond_mono {b : Bool} {p p' : Option β} (h : cond b none p = some x) (h1 : p = some x → p' = some x) : cond b none p' = some x := cond_mono h id h1

theorem asC_mono {t : CT} {p : PV} {K K' : PV → Option β} (h : asC t p K = some x) (hk : ∀ q, K q = some x → K' q = some x) : asC t p K' = some x := by
  cases t <;> cases p <;> simp only [asC, pInt_eq, pBool_eq, pStr_eq, pSl_eq, pRaw_eq] at h ⊢ <;> first | exact hk _ h | exact cond_none_mono h (hk _) | cases h
theorem asCs_mono : ∀ {ts : List CT} {j : Nat} {cs : List PV} {K K' : List PV → Option β}, asCs ts j cs K = some x → (∀ q, K q = some x → K' q = some x) → asCs ts j cs K' = some x
  | [], j, cs, K, K', h, hk => hk _ h
  | t :: ts, j, cs, K, K', h, hk => by
    simp only [asCs] at h ⊢
    exact asC_mono h fun q hq => asCs_mono hq fun r hr => hk _ hr
mutual
theorem asV_mono : ∀ {t : VT} {p : PV} {K K' : PV → Option β}, asV t p K = some x → (∀ q, K q = some x → K' q = some x) → asV t p K' = some x
  | .c t, p, K, K', h, hk => by simp only [asV] at h ⊢; exact asC_mono h hk
  | .agg ts, p, K, K', h, hk => by
    simp only [asV, pAgg_eq] at h ⊢
    split at h
    · exact cond_none_mono h fun h => asCs_mono h fun q hq => hk _ hq
    · cases h
  | .tup ts, p, K, K', h, hk => by
    simp only [asV, pTup_eq] at h ⊢
    split at h
    · exact cond_none_mono h fun h => asVs_mono h fun q hq => hk _ hq
    · cases h
theorem asVs_mono : ∀ {ts : List VT} {j : Nat} {cs : List PV} {K K' : List PV → Option β}, asVs ts j cs K = some x → (∀ q, K q = some x → K' q = some x) → asVs ts j cs K' = some x
  | [], j, cs, K, K', h, hk => by simp only [asVs] at h ⊢; exact hk _ h
  | t :: ts, j, cs, K, K', h, hk => by
    simp only [asVs] at h ⊢
    exact asV_mono h fun q hq => asVs_mono hq fun r hr => hk _ hr
end
theorem cellsOf_mono {n : Option Nat} {v : AV} {K K' : List AV → Option β} (h : cellsOf n v K = some x) (hk : ∀ q, K q = some x → K' q = some x) : cellsOf n v K' = some x := by
  cases n with
  | none => simp only [cellsOf] at h ⊢; split at h <;> first | cases h | exact hk _ h
  | some n => simp only [cellsOf] at h ⊢; split at h <;> first | cases h | exact cond_none_mono h (hk _)
theorem pOne_mono {p : PV} {K K' : PV → Option β} (h : pOne p K = some x) (hk : ∀ q, K q = some x → K' q = some x) : pOne p K' = some x := by
  cases p <;> simp only [pOne] at h ⊢ <;> first | cases h; done | exact hk _ h
theorem ones_mono : ∀ {l : List AV} {K K' : List AV → Option β}, ones l K = some x → (∀ q, K q = some x → K' q = some x) → ones l K' = some x
  | [], K, K', h, hk => hk _ h
  | v :: r, K, K', h, hk => by
    cases v <;> simp only [ones] at h ⊢
    case pv p => exact pOne_mono h fun q hq => ones_mono hq fun r hr => hk _ hr
    all_goals first | cases h; done | exact ones_mono h fun r hr => hk _ hr
theorem onesP_mono : ∀ {l : List PV} {K K' : List PV → Option β}, onesP l K = some x → (∀ q, K q = some x → K' q = some x) → onesP l K' = some x
  | [], K, K', h, hk => hk _ h
  | v :: r, K, K', h, hk => by
    simp only [onesP] at h ⊢
    exact pOne_mono h fun q hq => onesP_mono hq fun r hr => hk _ hr
theorem elemCells_mono {sz : Nat} {v : AV} {K K' : List PV → Option β} (h : elemCells sz v K = some x) (hk : ∀ q, K q = some x → K' q = some x) : elemCells sz v K' = some x := by
  unfold elemCells at h ⊢
  split at h
  · exact cond_none_mono h fun h => onesP_mono h hk
  · exact cond_none_mono h fun h => onesP_mono h hk
  · cases h
theorem partsSl_mono {g : AO → AV} {sz : Nat} : ∀ {ps : List (Nat × AO)} {xs : List (List PV)} {K K' : List (List PV) → Option β}, partsSl g sz ps xs K = some x → (∀ q, K q = some x → K' q = some x) → partsSl g sz ps xs K' = some x
  | [], xs, K, K', h, hk => hk _ h
  | (i, v) :: r, xs, K, K', h, hk => by
    simp only [partsSl] at h ⊢
    exact elemCells_mono h fun q hq => partsSl_mono hq hk
theorem partsAV_mono {g : AO → AV} : ∀ {ps : List (Nat × Nat × AO)} {K K' : List (Nat × Nat × List AV) → Option β}, partsAV g ps K = some x → (∀ q, K q = some x → K' q = some x) → partsAV g ps K' = some x
  | [], K, K', h, hk => hk _ h
  | (off, n, v) :: r, K, K', h, hk => by
    simp only [partsAV] at h ⊢
    split at h <;> first | cases h; done | exact cond_none_mono h fun h => partsAV_mono h fun q hq => hk _ hq
theorem bound_mono {v : Option AV} {d : Int} {K K' : Int → Option β} (h : bound v d K = some x) (hk : ∀ q, K q = some x → K' q = some x) : bound v d K' = some x := by
  unfold bound at h ⊢
  split at h <;> first | cases h; done | exact hk _ h
theorem binInt_mono {op : BinOp} {k : IntKind} {a b : Int} {K K' : PV → Option β} (h : binInt op k a b K = some x) (hk : ∀ q, K q = some x → K' q = some x) : binInt op k a b K' = some x := by
  cases op <;> simp only [binInt] at h ⊢ <;> first | cases h; done | exact hk _ h | exact none_cond_mono h (hk _)
theorem binStr_mono {op : BinOp} {a b : ByteArray} {K K' : PV → Option β} (h : binStr op a b K = some x) (hk : ∀ q, K q = some x → K' q = some x) : binStr op a b K' = some x := by
  cases op <;> simp only [binStr] at h ⊢ <;> first | cases h; done | exact hk _ h | exact cond_none_mono h (hk _)
theorem binOpA_mono {op : BinOp} {a b : AV} {K K' : AV → Option β} (h : binOpA op a b K = some x) (hk : ∀ q, K q = some x → K' q = some x) : binOpA op a b K' = some x := by
  unfold binOpA at h ⊢
  split at h
  · split at h
    · exact none_cond_mono h (hk _)
    · exact none_cond_mono h (hk _)
    · exact cond_none_mono h fun h => binInt_mono h fun q hq => hk _ hq
  · exact binStr_mono h fun q hq => hk _ hq
  · cases h

theorem drop_env (st : St) (z : AO) (s : Nat) (h : s ∉ z.slots) : (st.drop z).env[s]? = st.env[s]? := by
  cases z with
  | t i =>
    simp only [AO.slots, List.mem_singleton] at h
    simp only [St.drop]
    rw [List.getElem?_set_ne (by omega)]
  | c v => rfl
theorem drop_objs (st : St) (z : AO) : (st.drop z).objs = st.objs := by cases z <;> rfl

theorem backObjs_other : ∀ {ids : List Nat} {obs objs : List AObj} {j : Nat}, ids.contains j = false → (backObjs ids obs objs)[j]? = objs[j]?
  | [], obs, objs, j, h => by cases obs <;> rfl
  | o :: ids, [], objs, j, h => rfl
  | o :: ids, ob :: obs, objs, j, h => by
    simp only [List.contains_cons, Bool.or_eq_false_iff] at h
    simp only [backObjs]
    rw [backObjs_other h.2, List.getElem?_set_ne]
    intro he; subst he; simp at h
theorem backObjs_len : ∀ {ids : List Nat} {obs objs : List AObj}, (backObjs ids obs objs).length = objs.length
  | [], obs, objs => by cases obs <;> rfl
  | o :: ids, [], objs => rfl
  | o :: ids, ob :: obs, objs => by simp only [backObjs]; rw [backObjs_len]; simp

theorem evOp_mono {o : AOp} (ht : o.tame = true) {K K' : St → AV → Option β} (h : evOp C ro o st K = some x) (hk : ∀ st' v, Eff o st st' → K st' v = some x → K' st' v = some x) : evOp C ro o st K' = some x := by
  have hs : ∀ v, K st v = some x → K' st v = some x := fun v => hk st v (Eff.refl _ _)
  have happ : ∀ ob, Eff o st { st with objs := st.objs ++ [ob] } := fun ob => ⟨fun _ _ => rfl, fun j hj _ => by simp [List.getElem?_append, hj]⟩
  cases o <;> simp only [evOp] at h ⊢
  case mv tk z =>
    cases tk
    · exact hs _ h
    · exact hk _ _ ⟨fun s hs => drop_env st z s (by simpa [AOp.drops] using hs), fun j _ _ => by rw [drop_objs]⟩ h
  case pick c a b =>
    split at h
    · split at h
      · exact hs _ h
      · exact cond_mono h (hs _) (hs _)
    · cases h
  case alloc z => exact hk _ _ (happ _) h
  case box n z => exact cellsOf_mono h fun q hq => hk _ _ (happ _) hq
  case build z ps => exact partsAV_mono h fun q hq => hs _ hq
  case bslice sz n z ps => exact partsSl_mono h fun q hq => hs _ hq
  case load ts t tk a =>
    split at h
    · rename_i o off ha
      split at h
      · cases ts with
        | some ts => exact cond_none_mono h (hs _)
        | none =>
          cases tk with
          | false => exact cond_none_mono h fun h => by simpa using hs _ (by simpa using h)
          | true =>
            refine cond_none_mono h fun h => cond_mono h (fun h => hk _ _ ⟨fun _ _ => rfl, fun j hj hne => ?_⟩ h) (hs _)
            have := hne [o] (by simp only [hitIds, ha])
            have : o ≠ j := by intro e; subst e; simp at this
            show (st.objs.set o _)[j]? = _
            rw [List.getElem?_set_ne this]
      · cases h
    · cases ts with
      | some ts => exact asCs_mono h fun q hq => hs _ hq
      | none => exact asC_mono h fun q hq => hs _ hq
    · cases h
  case store n a z =>
    split at h
    · rename_i o off ha
      split at h
      · refine cellsOf_mono h fun q hq => ones_mono hq fun r hr => cond_none_mono hr fun hr => hk _ _ ⟨fun s hs => ?_, fun j hj hne => ?_⟩ hr
        · exact drop_env st z s (by simpa [AOp.drops] using hs)
        · have := hne [o] (by simp only [hitIds, ha])
          have : o ≠ j := by intro e; subst e; simp at this
          rw [List.getElem?_set_ne this]
      · cases h
    · cases h
  case nilck z => split at h <;> first | cases h; done | exact hs _ h
  case bin op a b => exact binOpA_mono h (hs)
  case eqa neg ts a b =>
    split at h
    · split at h
      · exact hs _ h
      · cases h
    · cases h
  case eqb neg a b => split at h <;> first | cases h; done | exact hs _ h
  case eqp neg a b => split at h <;> first | cases h; done | exact hs _ h
  case not z => split at h <;> first | cases h; done | exact hs _ h
  case neg z => split at h <;> first | cases h; done | exact hs _ h
  case conv k z => split at h <;> first | cases h; done | exact hs _ h
  case cvs z => split at h <;> first | cases h; done | exact hs _ h
  case bstr z => split at h <;> first | cases h; done | exact cond_none_mono h (hs _)
  case mm mx a b => split at h <;> first | cases h; done | exact cond_none_mono h (hs _)
  case slstr z lo hi =>
    split at h
    · exact bound_mono h fun q hq => bound_mono hq fun r hr => cond_none_mono hr (hs _)
    · cases h
  case slsl sz z lo hi =>
    split at h
    · exact bound_mono h fun q hq => bound_mono hq fun r hr => cond_none_mono hr (hs _)
    · cases h
  case faddr off z => split at h <;> first | cases h; done | exact hs _ h
  case fld off n z =>
    split at h
    · cases n <;> exact cond_none_mono h (hs _)
    · cases n <;> exact cond_none_mono h (hs _)
    · cases h
  case iaddr sz a b => split at h <;> first | cases h; done | exact cond_none_mono h (hs _)
  case idxs a b => split at h <;> first | cases h; done | exact cond_none_mono h (hs _)
  case lens z => split at h <;> first | cases h; done | exact hs _ h
  case len z => split at h <;> first | cases h; done | exact hs _ h
  case append sz by_ a b =>
    have hd : Eff (.append sz by_ a b) st (st.drop a) := ⟨fun s hs => drop_env st a s (by simpa [AOp.drops] using hs), fun j _ _ => by rw [drop_objs]⟩
    split at h
    · refine cond_none_mono h fun h => ?_
      split at h <;> first | cases h; done | exact cond_none_mono h (hk _ _ hd)
    · cases h
  case call z as r =>
    cases r with
    | write vt sh => simp [AOp.tame, AOp.quiet] at ht
    | wide =>
      split at h
      · rename_i f a c hz
        simp only [doCall_eq, doCallM] at h ⊢
        refine cond_none_mono h fun h => cond_none_mono h fun h => ?_
        obtain ⟨p, hp, h⟩ := Option.bind_eq_some_iff.1 h
        refine Option.bind_eq_some_iff.2 ⟨p, hp, hk _ _ ⟨fun _ _ => rfl, fun j hj hne => ?_⟩ h⟩
        have := hne _ (by simp only [hitIds, hz]; rfl)
        show (_ ++ _)[j]? = _
        rw [List.getElem?_append_left (by rw [backObjs_len]; exact hj), backObjs_other this]
      · cases h
    | read vt =>
      split at h
      · simp only [doCall_eq, doCallM] at h ⊢
        refine cond_none_mono h fun h => ?_
        obtain ⟨p, hp, h⟩ := Option.bind_eq_some_iff.1 h
        exact Option.bind_eq_some_iff.2 ⟨p, hp, asV_mono h fun q hq => hs _ hq⟩
      · cases h
  case extract z i => split at h <;> first | cases h; done | exact cond_none_mono h (hs _)
  case range z =>
    split at h
    · exact hk _ _ (happ _) h
    · cases h
  case next z => simp [AOp.tame, AOp.quiet] at ht
  case stuck => cases h
  case mkfn f a c => exact hs _ h
  case mkif t z => split at h <;> first | cases h; done | exact hs _ h

/-! ### Slots that are not looked at -/

theorem partsAV_congr {g g' : AO → AV} : ∀ {ps : List (Nat × Nat × AO)} {K : List (Nat × Nat × List AV) → Option β}, (∀ p ∈ ps, g p.2.2 = g' p.2.2) → partsAV g ps K = partsAV g' ps K
  | [], K, h => rfl
  | (off, n, v) :: r, K, h => by
    have h1 := h (off, n, v) (by simp)
    simp only at h1
    have h2 : ∀ L : List (Nat × Nat × List AV) → Option β, partsAV g r L = partsAV g' r L := fun L => partsAV_congr fun p hp => h p (by simp [hp])
    simp only [partsAV, h1, h2]
theorem partsSl_congr {g g' : AO → AV} {sz : Nat} : ∀ {ps : List (Nat × AO)} {xs : List (List PV)} {K : List (List PV) → Option β}, (∀ p ∈ ps, g p.2 = g' p.2) → partsSl g sz ps xs K = partsSl g' sz ps xs K
  | [], xs, K, h => rfl
  | (i, v) :: r, xs, K, h => by
    have h1 := h (i, v) (by simp)
    simp only at h1
    have h2 : ∀ xs (L : List (List PV) → Option β), partsSl g sz r xs L = partsSl g' sz r xs L := fun xs L => partsSl_congr fun p hp => h p (by simp [hp])
    simp only [partsSl, h1, h2]

theorem get_setE {d : Nat} {v : AV} {z : AO} (h : d ∉ z.slots) : (st.setE d v).get z = st.get z := by
  cases z with
  | t i =>
    simp only [AO.slots, List.mem_singleton] at h
    simp only [St.get, St.setE, List.getD_eq_getElem?_getD]
    rw [List.getElem?_set_ne h]
  | c w => rfl
theorem drop_setE {d : Nat} {v : AV} {z : AO} (h : d ∉ z.slots) : (st.setE d v).drop z = (st.drop z).setE d v := by
  cases z with
  | t i =>
    simp only [AO.slots, List.mem_singleton] at h
    simp only [St.drop, St.setE, List.getD_eq_getElem?_getD]
    rw [List.getElem?_set_ne h, List.set_comm _ _ h]
  | c w => rfl
theorem map_get_setE {d : Nat} {v : AV} {l : List AO} (h : d ∉ AO.slotsL l) : l.map (st.setE d v).get = l.map st.get :=
  List.map_congr_left fun z hz => get_setE fun hm => h (List.mem_flatMap.2 ⟨z, hz, hm⟩)
theorem opt_get_setE {d : Nat} {v : AV} {l : Option AO} (h : d ∉ AO.slotsO l) : l.map (st.setE d v).get = l.map st.get := by
  cases l with
  | none => rfl
  | some z => simp only [Option.map_some]; rw [get_setE h]

theorem evOp_setE {o : AOp} {d : Nat} {v : AV} {K : St → AV → Option β} (h : d ∉ o.slots) : evOp C ro o (st.setE d v) K = evOp C ro o st (fun st' r => K (st'.setE d v) r) := by
  have ho : (st.setE d v).objs = st.objs := rfl
  cases o <;> simp only [AOp.slots, List.mem_append, not_or] at h <;> simp only [evOp]
  case mv tk z => rw [get_setE h, drop_setE h]
  case pick c a b => rw [get_setE h.1.1, get_setE h.1.2, get_setE h.2]
  case alloc z => rfl
  case box n z => rw [get_setE h]; rfl
  case build z ps =>
    rw [partsAV_congr (g' := st.get) fun p hp => get_setE fun hm => h (List.mem_flatMap.2 ⟨p, hp, hm⟩)]
  case bslice sz n z ps =>
    rw [partsSl_congr (g' := st.get) fun p hp => get_setE fun hm => h (List.mem_flatMap.2 ⟨p, hp, hm⟩)]
  case load ts t tk a => rw [get_setE h]; rfl
  case store n a z => rw [get_setE h.1, get_setE h.2, drop_setE h.2]; rfl
  case nilck z => rw [get_setE h]
  case bin op a b => rw [get_setE h.1, get_setE h.2]
  case eqa neg ts a b => rw [get_setE h.1, get_setE h.2]
  case eqb neg a b => rw [get_setE h.1, get_setE h.2]
  case eqp neg a b => rw [get_setE h.1, get_setE h.2]
  case not z => rw [get_setE h]
  case neg z => rw [get_setE h]
  case conv k z => rw [get_setE h]
  case cvs z => rw [get_setE h]
  case bstr z => rw [get_setE h]
  case mm mx a b => rw [get_setE h.1, get_setE h.2]
  case slstr z lo hi => rw [get_setE h.1.1, opt_get_setE h.1.2, opt_get_setE h.2]
  case slsl sz z lo hi => rw [get_setE h.1.1, opt_get_setE h.1.2, opt_get_setE h.2]
  case faddr off z => rw [get_setE h]
  case fld off n z => rw [get_setE h]
  case iaddr sz a b => rw [get_setE h.1, get_setE h.2]
  case idxs a b => rw [get_setE h.1, get_setE h.2]
  case lens z => rw [get_setE h]
  case len z => rw [get_setE h]
  case append sz by_ a b => rw [get_setE h.1, get_setE h.2, drop_setE h.1]
  case call z as r => rw [get_setE h.1, map_get_setE h.2]; rfl
  case extract z i => rw [get_setE h]
  case range z => rw [get_setE h]; rfl
  case next z => rw [get_setE h]; rfl
  case mkfn f a c =>
    have e1 : a.map (fun x => ((st.setE d v).get x).view) = a.map (fun x => (st.get x).view) := List.map_congr_left fun z hz => by rw [get_setE fun hm => h.1 (List.mem_flatMap.2 ⟨z, hz, hm⟩)]
    have e2 : c.map (fun x => ((st.setE d v).get x).view) = c.map (fun x => (st.get x).view) := List.map_congr_left fun z hz => by rw [get_setE fun hm => h.2 (List.mem_flatMap.2 ⟨z, hz, hm⟩)]
    rw [e1, e2]
  case mkif t z => rw [get_setE h]

/-! ### Quiet operations -/

theorem cond_bind {γ : Type} {b : Bool} {p q : Option γ} {F : γ → Option β} : (cond b p q).bind F = cond b (p.bind F) (q.bind F) := by cases b <;> rfl

theorem asC_bind {t : CT} {p : PV} {K : PV → Option β} : asC t p K = (asC t p some).bind K := by
  cases t <;> cases p <;> simp only [asC, pInt_eq, pBool_eq, pStr_eq, pSl_eq, pRaw_eq, cond_bind, Option.bind_some, Option.bind_none]
theorem asCs_bind : ∀ {δ : Type} {ts : List CT} {j : Nat} {cs : List PV} {K : List PV → Option δ}, asCs ts j cs K = (asCs ts j cs some).bind K
  | _, [], j, cs, K => rfl
  | _, t :: ts, j, cs, K => by
    simp only [asCs]
    rw [asC_bind, asC_bind (K := fun p => asCs ts (j + 1) cs fun ps => some (p :: ps)), Option.bind_assoc]
    congr 1
    funext p
    rw [asCs_bind, asCs_bind (K := fun ps => some (p :: ps)), Option.bind_assoc]
    rfl
theorem partsAV_bind {g : AO → AV} : ∀ {δ : Type} {ps : List (Nat × Nat × AO)} {K : List (Nat × Nat × List AV) → Option δ}, partsAV g ps K = (partsAV g ps some).bind K
  | _, [], K => rfl
  | _, (off, n, v) :: r, K => by
    have key : ∀ c : List AV, (partsAV g r fun l => K ((off, n, c) :: l)) = (partsAV g r fun l => some ((off, n, c) :: l)).bind K := by
      intro c
      rw [partsAV_bind, partsAV_bind (K := fun l => some ((off, n, c) :: l)), Option.bind_assoc]
      rfl
    simp only [partsAV]
    split <;> simp only [cond_bind, key, Option.bind_none]
theorem pOne_bind {p : PV} {K : PV → Option β} : pOne p K = (pOne p some).bind K := by cases p <;> rfl
theorem onesP_bind : ∀ {δ : Type} {l : List PV} {K : List PV → Option δ}, onesP l K = (onesP l some).bind K
  | _, [], K => rfl
  | _, p :: r, K => by
    simp only [onesP]
    cases p <;> simp only [pOne, Option.bind_none] <;> rw [onesP_bind, onesP_bind (K := fun l => some (_ :: l)), Option.bind_assoc] <;> rfl
theorem elemCells_bind {sz : Nat} {v : AV} {K : List PV → Option β} : elemCells sz v K = (elemCells sz v some).bind K := by
  unfold elemCells
  split
  · rw [onesP_bind, cond_bind]; rfl
  · rw [onesP_bind, cond_bind]; rfl
  · rfl
theorem partsSl_bind {g : AO → AV} {sz : Nat} : ∀ {δ : Type} {ps : List (Nat × AO)} {xs : List (List PV)} {K : List (List PV) → Option δ}, partsSl g sz ps xs K = (partsSl g sz ps xs some).bind K
  | _, [], xs, K => rfl
  | _, (i, v) :: r, xs, K => by
    simp only [partsSl]
    rw [elemCells_bind, elemCells_bind (K := fun c => partsSl g sz r (xs.set i c) some), Option.bind_assoc]
    congr 1
    funext c
    exact partsSl_bind
theorem bound_bind {v : Option AV} {d : Int} {K : Int → Option β} : bound v d K = (bound v d some).bind K := by
  unfold bound
  split <;> rfl
theorem binOpA_bind {op : BinOp} {a b : AV} {K : AV → Option β} : binOpA op a b K = (binOpA op a b some).bind K := by
  unfold binOpA
  split
  · split
    · simp only [cond_bind, Option.bind_none, Option.bind_some]
    · simp only [cond_bind, Option.bind_none, Option.bind_some]
    · simp only [cond_bind, Option.bind_none]
      congr 1
      cases op <;> simp only [binInt, cond_bind, Option.bind_none, Option.bind_some]
  · cases op <;> simp only [binStr, cond_bind, Option.bind_none, Option.bind_some]
  · rfl

theorem quiet_bind {o : AOp} (hq : o.quiet = true) {K : St → AV → Option β} : evOp C ro o st K = (evOp C ro o st (fun _ v => some v)).bind (K (dropSt o st)) := by
  cases o <;> simp only [AOp.quiet, Bool.false_eq_true] at hq <;> simp only [evOp, dropSt]
  case mv tk z => cases tk <;> rfl
  case pick c a b =>
    split
    · split <;> simp only [cond_bind, Option.bind_some]
    · rfl
  case build z ps => rw [partsAV_bind, partsAV_bind (K := fun l => some (mkAggB (fillAV l (z.map nilAV)))), Option.bind_assoc]; rfl
  case bslice sz n z ps => rw [partsSl_bind, partsSl_bind (K := fun xs => some (AV.own sz xs)), Option.bind_assoc]; rfl
  case load ts t tk a =>
    cases tk with
    | true => cases hq
    | false =>
      split
      · split
        · cases ts
          · simp only [Bool.false_and, cond]
            split <;> rfl
          · simp only [cond_bind, Option.bind_some, Option.bind_none]
        · rfl
      · cases ts with
        | some ts => simp only []; rw [asCs_bind, asCs_bind (K := fun ps => some (AV.pv (.agg ps))), Option.bind_assoc]; rfl
        | none => simp only []; rw [asC_bind, asC_bind (K := fun p => some (AV.pv p)), Option.bind_assoc]; rfl
      · rfl
  case nilck z => split <;> rfl
  case bin op a b => exact binOpA_bind
  case eqa neg ts a b =>
    split
    · split <;> rfl
    · rfl
  case eqb neg a b => split <;> rfl
  case eqp neg a b => split <;> rfl
  case not z => split <;> rfl
  case neg z => split <;> rfl
  case conv k z => split <;> rfl
  case cvs z => split <;> rfl
  case bstr z => split <;> simp only [cond_bind, Option.bind_some, Option.bind_none]
  case mm mx a b => split <;> simp only [cond_bind, Option.bind_some, Option.bind_none]
  case slstr z lo hi =>
    split
    · rw [bound_bind, bound_bind (K := fun h => bound _ _ fun l => cond _ (some _) none), Option.bind_assoc]
      congr 1; funext h
      rw [bound_bind, bound_bind (K := fun l => cond _ (some _) none), Option.bind_assoc]
      congr 1; funext l
      simp only [cond_bind, Option.bind_some, Option.bind_none]
    · rfl
  case slsl sz z lo hi =>
    split
    · rw [bound_bind, bound_bind (K := fun h => bound _ _ fun l => cond _ (some _) none), Option.bind_assoc]
      congr 1; funext h
      rw [bound_bind, bound_bind (K := fun l => cond _ (some _) none), Option.bind_assoc]
      congr 1; funext l
      simp only [cond_bind, Option.bind_some, Option.bind_none]
    · rfl
  case faddr off z => split <;> rfl
  case fld off n z =>
    split
    · cases n <;> simp only [cond_bind, Option.bind_some, Option.bind_none]
    · cases n <;> simp only [cond_bind, Option.bind_some, Option.bind_none]
    · rfl
  case iaddr sz a b => split <;> simp only [cond_bind, Option.bind_some, Option.bind_none]
  case idxs a b => split <;> simp only [cond_bind, Option.bind_some, Option.bind_none]
  case lens z => split <;> rfl
  case len z => split <;> rfl
  case extract z i => split <;> simp only [cond_bind, Option.bind_some, Option.bind_none]
  case mkfn f a c => rfl
  case mkif t z => split <;> rfl

def Agree (l : List Nat) (st2 st : St) : Prop := ∀ s ∈ l, st2.env[s]? = st.env[s]?
theorem Agree.get {z : AO} (h : Agree z.slots st2 st) : st2.get z = st.get z := by
  cases z with
  | t i => simp only [St.get, List.getD_eq_getElem?_getD, h i (by simp [AO.slots])]
  | c w => rfl
theorem Agree.left {a b : List Nat} (h : Agree (a ++ b) st2 st) : Agree a st2 st := fun s hs => h s (List.mem_append_left _ hs)
theorem Agree.right {a b : List Nat} (h : Agree (a ++ b) st2 st) : Agree b st2 st := fun s hs => h s (List.mem_append_right _ hs)
theorem Agree.opt {l : Option AO} (h : Agree (AO.slotsO l) st2 st) : l.map st2.get = l.map st.get := by
  cases l with
  | none => rfl
  | some z => simp only [Option.map_some]; rw [Agree.get (z := z) h]

theorem quiet_congr {o : AOp} (hq : o.quiet = true) (h : Agree o.slots st2 st) (hl : ∀ ts t tk b j off, o = .load ts t tk b → st.get b = .ptr j off → st2.objs[j]? = st.objs[j]?) :
    evOp C ro o st2 (fun _ v => some v) = evOp C ro o st (fun _ v => some v) := by
  cases o <;> simp only [AOp.quiet, Bool.false_eq_true] at hq <;> simp only [AOp.slots] at h <;> simp only [evOp]
  case mv tk z => rw [h.get]
  case pick c a b => rw [h.left.left.get, h.left.right.get, h.right.get]
  case build z ps => rw [partsAV_congr (g' := st.get) fun p hp => Agree.get fun s hs => h s (List.mem_flatMap.2 ⟨p, hp, hs⟩)]
  case bslice sz n z ps => rw [partsSl_congr (g' := st.get) fun p hp => Agree.get fun s hs => h s (List.mem_flatMap.2 ⟨p, hp, hs⟩)]
  case load ts t tk a =>
    rw [h.get]
    cases tk with
    | true => cases hq
    | false =>
      split
      · rename_i j off hj
        rw [hl _ _ _ _ j off rfl hj]
      · rfl
      · rfl
  case nilck z => rw [h.get]
  case bin op a b => rw [h.left.get, h.right.get]
  case eqa neg ts a b => rw [h.left.get, h.right.get]
  case eqb neg a b => rw [h.left.get, h.right.get]
  case eqp neg a b => rw [h.left.get, h.right.get]
  case not z => rw [h.get]
  case neg z => rw [h.get]
  case conv k z => rw [h.get]
  case cvs z => rw [h.get]
  case bstr z => rw [h.get]
  case mm mx a b => rw [h.left.get, h.right.get]
  case slstr z lo hi => rw [h.left.left.get, h.left.right.opt, h.right.opt]
  case slsl sz z lo hi => rw [h.left.left.get, h.left.right.opt, h.right.opt]
  case faddr off z => rw [h.get]
  case fld off n z => rw [h.get]
  case iaddr sz a b => rw [h.left.get, h.right.get]
  case idxs a b => rw [h.left.get, h.right.get]
  case lens z => rw [h.get]
  case len z => rw [h.get]
  case extract z i => rw [h.get]
  case mkfn f a c =>
    have e1 : a.map (fun x => (st2.get x).view) = a.map (fun x => (st.get x).view) := List.map_congr_left fun z hz => by rw [Agree.get (z := z) fun s hs => h s (List.mem_append_left _ (List.mem_flatMap.2 ⟨z, hz, hs⟩))]
    have e2 : c.map (fun x => (st2.get x).view) = c.map (fun x => (st.get x).view) := List.map_congr_left fun z hz => by rw [Agree.get (z := z) fun s hs => h s (List.mem_append_right _ (List.mem_flatMap.2 ⟨z, hz, hs⟩))]
    rw [e1, e2]
  case mkif t z => rw [h.get]

/-- What a quiet operation hands back. -/
theorem evOp_quiet {o : AOp} (hq : o.quiet = true) {K : St → AV → Option β} (h : evOp C ro o st K = some x) : ∃ v, K (dropSt o st) v = some x ∧
    ∀ st2 : St, Agree o.slots st2 st → (∀ ts t tk b j off, o = .load ts t tk b → st.get b = .ptr j off → j < st.objs.length → st2.objs[j]? = st.objs[j]?) →
      ∀ (γ : Type) (K' : St → AV → Option γ), evOp C ro o st2 K' = K' (dropSt o st2) v := by
  have hlt : ∀ ts t tk b j off, o = .load ts t tk b → st.get b = .ptr j off → j < st.objs.length := by
    intro ts t tk b j off ho hb
    subst ho
    simp only [evOp, hb] at h
    split at h
    · rename_i c hc; exact (List.getElem?_eq_some_iff.1 hc).1
    · cases h
  rw [quiet_bind hq] at h
  obtain ⟨v, hv, hk⟩ := Option.bind_eq_some_iff.1 h
  refine ⟨v, hk, fun st2 ha hl γ K' => ?_⟩
  rw [quiet_bind hq, quiet_congr hq ha fun ts t tk b j off ho hb => hl ts t tk b j off ho hb (hlt ts t tk b j off ho hb), hv]
  rfl

/-! ### An object that reads the same -/

def St.setO (st : St) (j : Nat) (ob : AObj) : St := { st with objs := st.objs.set j ob }

theorem view_view (v : AV) : v.view.view = v.view := by cases v <;> rfl
theorem toPV_view (v : AV) : toPV v.view = toPV v := by cases v <;> rfl
theorem toPVs_view : ∀ (l : List AV), toPVs (l.map AV.view) = toPVs l
  | [] => rfl
  | v :: r => by simp only [List.map_cons, toPVs, toPV_view, toPVs_view r]
theorem mkAgg_views {l l' : List AV} (h : l.map AV.view = l'.map AV.view) : mkAgg l = mkAgg l' := by
  unfold mkAgg
  rw [← toPVs_view l, ← toPVs_view l', h]
theorem getD_view (l : List AV) (i : Nat) : (l.getD i .any).view = (l.map AV.view).getD i .any := by
  simp only [List.getD_eq_getElem?_getD, List.getElem?_map]
  cases l[i]? <;> rfl

theorem idsA_view (v : AV) (l : List Nat) : idsA v.view l = idsA v l := by cases v <;> simp [AV.view, idsA]
theorem idsL_view : ∀ (c : List AV) (l : List Nat), idsL (c.map AV.view) l = idsL c l
  | [], l => by simp [idsL]
  | v :: r, l => by simp only [List.map_cons, idsL, idsA_view, idsL_view r]
theorem inA_view (ids : List Nat) (v : AV) : inA ids v.view = inA ids v := by cases v <;> simp [AV.view, inA]
theorem inL_view (ids : List Nat) : ∀ (c : List AV), inL ids (c.map AV.view) = inL ids c
  | [] => by simp [inL]
  | v :: r => by simp only [List.map_cons, inL, inA_view, inL_view ids r]
theorem renA_view (ids : List Nat) (v : AV) : (renA ids v).view = renA ids v.view := by cases v <;> simp [AV.view, renA]
theorem renL_map (ids : List Nat) : ∀ (c : List AV), renL ids c = c.map (renA ids)
  | [] => by simp [renL]
  | v :: r => by simp only [renL, List.map_cons, renL_map ids r]

section
variable {j : Nat} {c c' : List AV} {objs : List AObj}

/-- Lists of objects that read the same. -/
def Alike (objs objs' : List AObj) : Prop := ∀ o : Nat, objs'[o]? = objs[o]? ∨ ∃ c c' : List AV, objs[o]? = some (.cells c) ∧ objs'[o]? = some (.cells c') ∧ c'.map AV.view = c.map AV.view

theorem alike_set (hj : objs[j]? = some (.cells c)) (hv : c'.map AV.view = c.map AV.view) : Alike objs (objs.set j (.cells c')) := by
  intro o
  by_cases h : j = o
  · subst h
    have hlt : j < objs.length := (List.getElem?_eq_some_iff.1 hj).1
    exact .inr ⟨c, c', hj, by simp [hlt], hv⟩
  · exact .inl (List.getElem?_set_ne h)

theorem Alike.reach {objs' : List AObj} (h : Alike objs objs') : ∀ (n : Nat) (l : List Nat), reachIds objs' n l = reachIds objs n l
  | 0, l => rfl
  | n + 1, l => by
    simp only [reachIds]
    rw [h.reach n]
    congr 1
    congr 1
    funext l o
    rcases h o with h1 | ⟨c, c', h1, h2, h3⟩
    · rw [h1]
    · rw [h1, h2]
      show idsL c' l = idsL c l
      rw [← idsL_view c', ← idsL_view c, h3]

theorem Alike.lendIds {args : List AV} {objs' : List AObj} (h : Alike objs objs') (hl : objs'.length = objs.length) : lendIds objs' args = lendIds objs args := by
  unfold Go.Cx.lendIds
  rw [h.reach, hl]

theorem Alike.ok {ids : List Nat} {args : List AV} {objs' : List AObj} (h : Alike objs objs') (hl : objs'.length = objs.length) : okIds objs' args ids = okIds objs args ids := by
  unfold okIds
  rw [hl]
  congr 1
  have : (fun o => Nat.blt o objs.length && inO ids (objs'.getD o (.cells []))) = (fun o => Nat.blt o objs.length && inO ids (objs.getD o (.cells []))) := by
    funext o
    congr 1
    simp only [List.getD_eq_getElem?_getD]
    rcases h o with h1 | ⟨c, c', h1, h2, h3⟩
    · rw [h1]
    · rw [h1, h2]
      show inL ids c' = inL ids c
      rw [← inL_view ids c', ← inL_view ids c, h3]
  rw [this]

theorem Alike.lendR {ids : List Nat} {objs' : List AObj} (h : Alike objs objs') : (lend objs' ids).map viewO = (lend objs ids).map viewO := by
  simp only [lend, List.map_map]
  apply List.map_congr_left
  intro o _
  simp only [Function.comp, List.getD_eq_getElem?_getD]
  rcases h o with h1 | ⟨c, c', h1, h2, h3⟩
  · rw [h1]
  · rw [h1, h2]
    simp only [Option.getD_some, renO, viewO, renL_map, List.map_map]
    congr 1
    have : ∀ l : List AV, l.map (AV.view ∘ renA ids) = (l.map AV.view).map (renA ids) := by
      intro l
      rw [List.map_map]
      apply List.map_congr_left
      intro v _
      exact renA_view ids v
    rw [this, this, h3]

theorem lend_set {ids : List Nat} {ob : AObj} (h : ids.contains j = false) : lend (objs.set j ob) ids = lend objs ids := by
  simp only [lend]
  apply List.map_congr_left
  intro o ho
  have : j ≠ o := by
    intro e; subst e
    have : ids.contains j = true := by simpa using ho
    rw [this] at h; cases h
  simp only [List.getD_eq_getElem?_getD, List.getElem?_set_ne this]

theorem backObjs_set : ∀ {ids : List Nat} {obs objs : List AObj} {ob : AObj}, ids.contains j = false → backObjs ids obs (objs.set j ob) = (backObjs ids obs objs).set j ob
  | [], obs, objs, ob, h => by cases obs <;> rfl
  | o :: ids, [], objs, ob, h => rfl
  | o :: ids, ob' :: obs, objs, ob, h => by
    simp only [List.contains_cons, Bool.or_eq_false_iff] at h
    have : j ≠ o := by intro e; subst e; simp at h
    simp only [backObjs]
    rw [List.set_comm _ _ this, backObjs_set h.2]


theorem evOp_setO {o : AOp} (ht : o.tame = true) (hj : st.objs[j]? = some (.cells c)) (hv : c'.map AV.view = c.map AV.view) (hh : ∀ l, hitIds o st = some l → l.contains j = false) {K : St → AV → Option β} :
    evOp C ro o (st.setO j (.cells c')) K = evOp C ro o st (fun st' v => K (st'.setO j (.cells c')) v) := by
  have hlt : j < st.objs.length := (List.getElem?_eq_some_iff.1 hj).1
  have hget : ∀ z, (st.setO j (.cells c')).get z = st.get z := fun z => by cases z <;> rfl
  have hgetf : (st.setO j (.cells c')).get = st.get := funext hget
  have hdrop : ∀ z, (st.setO j (.cells c')).drop z = (st.drop z).setO j (.cells c') := fun z => by cases z <;> rfl
  have happ : ∀ x, st.objs.set j (.cells c') ++ [x] = (st.objs ++ [x]).set j (.cells c') := fun x => by rw [List.set_append_left _ _ hlt]
  have hclen : c'.length = c.length := by simpa using congrArg List.length hv
  cases o <;> simp only [evOp, hget, hgetf, hdrop]
  case alloc z =>
    show K { env := st.env, objs := st.objs.set j (.cells c') ++ [.cells z] } (.ptr (st.objs.set j (.cells c')).length 0) = _
    rw [happ, List.length_set]; rfl
  case box n z =>
    congr 1
    funext q
    show K { env := st.env, objs := st.objs.set j (.cells c') ++ [.cells q] } (.ptr (st.objs.set j (.cells c')).length 0) = _
    rw [happ, List.length_set]; rfl
  case range z =>
    split
    · rename_i s _
      show K { env := st.env, objs := st.objs.set j (.cells c') ++ [.iter s 0] } (.ptr (st.objs.set j (.cells c')).length 0) = _
      rw [happ, List.length_set]; rfl
    · rfl
  case load ts t tk a =>
    cases ha : st.get a with
    | ptr o off =>
      by_cases ho : j = o
      · subst ho
        have e1 : (st.setO j (.cells c')).objs[j]? = some (.cells c') := by
          show (st.objs.set j _)[j]? = _
          simp [hlt]
        simp only [e1, hj]
        cases ts with
        | some ts =>
          have : mkAgg ((c'.drop off).take ts.length) = mkAgg ((c.drop off).take ts.length) := mkAgg_views (by rw [List.map_take, List.map_drop, hv, List.map_take, List.map_drop])
          simp only [hclen, this]
        | none =>
          cases tk with
          | true => have := hh [j] (by simp only [hitIds, ha]); simp at this
          | false =>
            have : (c'.getD off .any).view = (c.getD off .any).view := by rw [getD_view, getD_view, hv]
            simp only [hclen, Bool.false_and, cond_false, this]
      · have e1 : (st.setO j (.cells c')).objs[o]? = st.objs[o]? := by
          show (st.objs.set j _)[o]? = _
          rw [List.getElem?_set_ne ho]
        simp only [e1]
        split
        · cases ts with
          | some ts => rfl
          | none =>
            simp only []
            congr 1
            congr 1
            show K { env := st.env, objs := (st.objs.set j (.cells c')).set o _ } _ = K { env := st.env, objs := (st.objs.set o _).set j (.cells c') } _
            rw [List.set_comm _ _ ho]
        · rfl
    | _ => rfl
  case store n a z =>
    cases ha : st.get a with
    | ptr o off =>
      have ho : j ≠ o := by
        intro e; subst e
        have := hh [j] (by simp only [hitIds, ha]); simp at this
      have e1 : (st.setO j (.cells c')).objs[o]? = st.objs[o]? := by
        show (st.objs.set j _)[o]? = _
        rw [List.getElem?_set_ne ho]
      simp only [e1]
      split
      · congr 1
        funext q
        congr 1
        funext r
        congr 1
        show K { env := (st.drop z).env, objs := (st.objs.set j (.cells c')).set o _ } _ = K { env := (st.drop z).env, objs := (st.objs.set o _).set j (.cells c') } _
        rw [List.set_comm _ _ ho]
      · rfl
    | _ => rfl
  case call z as r =>
    cases hz : st.get z with
    | fn f fa fc =>
      have hal : Alike st.objs (st.objs.set j (.cells c')) := alike_set hj hv
      have hlen : (st.objs.set j (.cells c')).length = st.objs.length := by simp
      cases r with
      | write vt sh => simp [AOp.tame, AOp.quiet] at ht
      | read vt =>
        have eo : (st.setO j (.cells c')).objs = st.objs.set j (.cells c') := rfl
        simp only [doCall_eq, doCallM, eo, hal.lendIds hlen, hal.ok hlen, hal.lendR]
      | wide =>
        have eo : (st.setO j (.cells c')).objs = st.objs.set j (.cells c') := rfl
        have hn := hh _ (by simp only [hitIds, hz]; rfl)
        simp only [doCall_eq, doCallM, eo, hal.lendIds hlen, hal.ok hlen, lend_set hn, hlen, backObjs_set hn]
        congr 1
        congr 1
        congr 1
        funext y
        show K { env := st.env, objs := (backObjs _ _ st.objs).set j (.cells c') ++ _ } _ = K { env := st.env, objs := (backObjs _ _ st.objs ++ _).set j (.cells c') } _
        rw [List.set_append_left _ _ (by rw [backObjs_len]; exact hlt)]
    | _ => rfl
  case next z => simp [AOp.tame, AOp.quiet] at ht
  all_goals rfl

end
end
end Go.Cx
