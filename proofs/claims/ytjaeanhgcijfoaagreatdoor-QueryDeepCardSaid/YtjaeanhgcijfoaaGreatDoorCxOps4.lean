/- Operations that leave the world as it is: slices, fields, elements. -/
import Derived.Test.YtjaeanhgcijfoaaGreatDoorCxOps3
import Derived.Laws.ByValue
set_option linter.unusedSimpArgs false
set_option linter.unusedVariables false
namespace Go.Cx
open Go.RowKit

section
variable {β : Type} {P : Program} {cr : FuncId → Option CR} {ops : List Oper} {C : Caller} {ro : Nat} {w0 w : World} {g0 g : G} {o : Oper} {a : Act} {st : St} {ao : AOp} {K : St → AV → Option β} {x : β}

theorem bound_inv {hi : Option Operand} {hi' : Option AO} {d : Int} {L : Int → Option β} (ht : trOpt P hi = some hi') (he : bound (hi'.map st.get) d L = some x) (hs : RepE w g a.tmps st.env) :
    ∃ n, L n = some x ∧ ((hi = none ∧ n = d) ∨ ∃ y k, hi = some y ∧ a.eval y = .int k n) := by
  cases hi with
  | none => simp [trOpt] at ht; subst ht; exact ⟨d, he, .inl ⟨rfl, rfl⟩⟩
  | some y =>
    obtain ⟨ay, hy, rfl⟩ := Option.map_eq_some_iff.1 ht
    have ry := trO_rep hy hs
    simp only [bound, Option.map_some] at he
    split at he
    · rename_i h; cases h
    · rename_i k n hv
      have hv : st.get ay = .pv (.int k n) := Option.some.inj hv
      rw [hv] at ry
      exact ⟨n, he, .inr ⟨y, k, rfl, ry.int_inv⟩⟩
    · cases he

theorem sliceBound_run {k : IntKind} {i : Int} {y : Nat} {code : BoundsCode} (h0 : 0 ≤ i) (h1 : i ≤ y) (w : World) : (Instr.sliceBound (.int k i) y code).run P w = .ok i.toNat w := by
  simp [Instr.sliceBound, asIntOf, h0, h1]

theorem sliceBounds_run {isS : Bool} {len cap : Nat} {lo hi : Option Value} {l h : Int} (hl : (lo = none ∧ l = 0) ∨ ∃ k, lo = some (.int k l)) (hh : (hi = none ∧ h = (len : Int)) ∨ ∃ k, hi = some (.int k h))
    (h0 : 0 ≤ l) (h1 : l ≤ h) (h2 : h ≤ (cap : Int)) (w : World) : (Instr.sliceBounds isS len cap lo hi none).run P w = .ok (l.toNat, h.toNat, cap) w := by
  have hh' : ((match hi with
      | some v => Instr.sliceBound v cap (if isS = true then BoundsCode.sliceAcap else BoundsCode.sliceAlen)
      | none => (pure len : Sem Nat)).run P w) = .ok h.toNat w := by
    rcases hh with ⟨rfl, rfl⟩ | ⟨k, rfl⟩
    · simp
    · exact sliceBound_run (by omega) h2 w
  have hl' : ((match lo with
      | some v => Instr.sliceBound v h.toNat BoundsCode.sliceB
      | none => (pure 0 : Sem Nat)).run P w) = .ok l.toNat w := by
    rcases hl with ⟨rfl, rfl⟩ | ⟨k, rfl⟩
    · simp
    · exact sliceBound_run h0 (by omega) w
  cases hi <;> cases lo <;> simp [Instr.sliceBounds, Sem.run_bind] at hh' hl' ⊢ <;> simp [hh', hl']

theorem evalOpt {lo : Option Operand} {l d : Int} (h : (lo = none ∧ l = d) ∨ ∃ y k, lo = some y ∧ a.eval y = .int k l) : (lo.map a.eval = none ∧ l = d) ∨ ∃ k, lo.map a.eval = some (.int k l) := by
  rcases h with ⟨rfl, h⟩ | ⟨y, k, rfl, h⟩
  · exact .inl ⟨rfl, h⟩
  · exact .inr ⟨k, by simp [h]⟩

theorem val_slstr {t : TypeId} {y : Operand} {ay : AO} {lo hi : Option Operand} {lo' hi' : Option AO} (hop : o.op = .slice t y lo hi none) (h1 : P.underlying t = some .string) (hy : trO P t y = some ay)
    (hlo : trOpt P lo = some lo') (hhi : trOpt P hi = some hi') (he : evOp C ro (.slstr ay lo' hi') st K = some x) (hs : RS ro w0 g0 a w st g) : Val P ro w0 g0 o a w K x := by
  have ry := trO_rep hy hs.env
  simp only [evOp] at he
  split at he
  · rename_i s hp
    rw [hp] at ry
    obtain ⟨h, he, hh⟩ := bound_inv hhi he hs.env
    obtain ⟨l, he, hl⟩ := bound_inv hlo he hs.env
    obtain ⟨hc, he⟩ := cond_some_none he
    simp only [Bool.and_eq_true, decide_eq_true_eq] at hc
    have hb := sliceBounds_run (P := P) (isS := false) (len := s.size) (cap := s.size) (evalOpt hl) (evalOpt hh) hc.1.1 hc.1.2 hc.2 w
    refine Val.of he (v := .string (s.extract l.toNat h.toNat)) ?_ hs (rStr _) (by simp)
    simp only [execOp, hop, ry.str_inv, Instr.sliceAt, Instr.slice, Option.map_none, Option.isSome_none, Bool.false_eq_true, if_false, Sem.run_bind, run_underlying h1, Result.andThen_ok, hb]
    rfl
  · cases he

theorem RepP.sl_inv {com : Nat → Nat} {v : Value} {sz : Nat} {xs : List (List PV)} (h : RepP w com v (.sl sz xs)) :
    ∃ A c, v = .slice A xs.length c ∧ xs.length ≤ c ∧ (xs ≠ [] → ∃ b off, A = some ⟨b, off, none⟩ ∧ off + xs.length * sz ≤ com b ∧ (∀ (i : Nat) (x : List PV), xs[i]? = some x → x.length = sz) ∧
      ∃ val : Nat → Nat → Value, (∀ i j, i < xs.length → j < sz → w.cell? ⟨b, off + i * sz + j, none⟩ = some (val i j)) ∧
        (∀ i j, i < xs.length → j < sz → (val i j).oneCell' = true) ∧ ∀ (i j : Nat) (x : List PV) (p : PV), xs[i]? = some x → x[j]? = some p → RepP w com (val i j) p) := by
  cases h with
  | sl0 a c => exact ⟨a, c, rfl, Nat.zero_le _, fun h => absurd rfl h⟩
  | sl b off n c _ _ val hn hc hcom hsz hcell hone hrep => subst hn; exact ⟨some ⟨b, off, none⟩, c, rfl, hc, fun _ => ⟨b, off, rfl, hcom, hsz, val, hcell, hone, hrep⟩⟩

theorem RepP.sl_sub {com : Nat → Nat} {A : Option Addr} {n c sz : Nat} {xs : List (List PV)} (h : RepP w com (.slice A n c) (.sl sz xs)) {l m : Nat} (hlm : l ≤ m) (hm : m ≤ xs.length) :
    RepP w com (.slice (if c = l then A else A.map (·.add (l * sz))) (m - l) (c - l)) (.sl sz ((xs.take m).drop l)) := by
  by_cases hlt : l = m
  · subst hlt
    have : (xs.take l).drop l = [] := by simp
    rw [this, Nat.sub_self]
    exact .sl0 _ _ _
  · obtain ⟨A', c', hv, hc, hr⟩ := h.sl_inv
    injection hv with e1 e2 e3
    subst e1; subst e3; subst e2
    have hne : xs ≠ [] := by intro h0; subst h0; simp at hm; omega
    obtain ⟨b, off, rfl, hcom, hsz, val, hcell, hone, hrep⟩ := hr hne
    rw [if_neg (by omega)]
    have hadd : (some (⟨b, off, none⟩ : Addr)).map (·.add (l * sz)) = some ⟨b, off + l * sz, none⟩ := by simp [go_sem]
    rw [hadd]
    have hml : (m - l) * sz + l * sz ≤ xs.length * sz := by rw [← Nat.add_mul]; exact Nat.mul_le_mul_right _ (by omega)
    refine .sl b (off + l * sz) (m - l) _ sz _ (fun i j => val (l + i) j) (by simp; omega) (by omega) (by omega) (fun i x hx => ?_) (fun i j hi hj => ?_) (fun i j hi hj => hone _ _ (by omega) hj) (fun i j x p hx hp => ?_)
    · rw [List.getElem?_drop] at hx
      rw [List.getElem?_take] at hx
      split at hx
      · exact hsz _ _ hx
      · cases hx
    · have := hcell (l + i) j (by omega) hj
      have e : off + l * sz + i * sz + j = off + (l + i) * sz + j := by rw [Nat.add_mul]; omega
      rw [e]; exact this
    · rw [List.getElem?_drop, List.getElem?_take] at hx
      split at hx
      · exact hrep _ _ _ _ hx hp
      · cases hx

theorem val_slsl {t e : TypeId} {y : Operand} {ay : AO} {lo hi : Option Operand} {lo' hi' : Option AO} (hop : o.op = .slice t y lo hi none) (h1 : P.underlying t = some (.slice e)) (hy : trO P t y = some ay)
    (hlo : trOpt P lo = some lo') (hhi : trOpt P hi = some hi') (he : evOp C ro (.slsl (P.cellsOf e) ay lo' hi') st K = some x) (hs : RS ro w0 g0 a w st g) (hi0 : (P.info? e).isSome = true) : Val P ro w0 g0 o a w K x := by
  have ry := (trO_rep hy hs.env).view
  simp only [evOp] at he
  split at he
  · rename_i sz xs hp
    rw [hp] at ry
    have ry := ry.pv_inv
    obtain ⟨h, he, hh⟩ := bound_inv hhi he hs.env
    obtain ⟨l, he, hl⟩ := bound_inv hlo he hs.env
    obtain ⟨hc, he⟩ := cond_some_none he
    simp only [Bool.and_eq_true, decide_eq_true_eq] at hc
    obtain ⟨⟨⟨hsz, h0⟩, hlh⟩, hx⟩ := hc
    have hsz : sz = P.cellsOf e := Nat.eq_of_beq_eq_true hsz
    obtain ⟨A, c, hv, hcap, _⟩ := ry.sl_inv
    have hb := sliceBounds_run (P := P) (isS := true) (len := xs.length) (cap := c) (evalOpt hl) (evalOpt hh) h0 hlh (by omega) w
    obtain ⟨inf, hinf⟩ := Option.isSome_iff_exists.1 hi0
    have hsize : P.cellsOf e = inf.size := by simp [Program.cellsOf, hinf]
    rw [hv] at ry
    have hsub := ry.sl_sub (l := l.toNat) (m := h.toNat) (by omega) (by omega)
    rw [hsz] at hsub
    refine Val.of he (v := .slice (if c = l.toNat then A else A.map (·.add (l.toNat * P.cellsOf e))) (h.toNat - l.toNat) (c - l.toNat)) ?_ hs (.pv _ _ hsub) (by simp)
    simp only [execOp, hop, hv, Instr.sliceAt, Instr.slice, Option.map_none, Sem.run_bind, run_underlying h1, Result.andThen_ok, hb, sizeOf, typeInfo, hinf, hsize, run_program, Sem.run_pure]
  · cases he

theorem fieldPlace_run {b off : Nat} {fd : Field} (h : P.cellsOf fd.type ≠ 0) (w : World) : (fieldPlace ⟨b, off, none⟩ fd).run P w = .ok ⟨b, off + fd.offset, none⟩ w := by
  have : ∃ i, P.info? fd.type = some i := by
    cases hi : P.info? fd.type with
    | none => simp [Program.cellsOf, hi] at h
    | some i => exact ⟨i, rfl⟩
  obtain ⟨i, hi⟩ := this
  have hz : i.size ≠ 0 := by simpa [Program.cellsOf, hi] using h
  simp only [fieldPlace, sizeOf, typeInfo, Sem.run_bind, run_program, Result.andThen_ok, hi, Sem.run_pure, if_neg hz, Addr.add_lit]

theorem val_faddr {t : TypeId} {fs : Array Field} {f : Nat} {fd : Field} {y : Operand} {ay : AO} (hop : o.op = .fieldAddr t y f) (h1 : P.underlying t = some (.struct fs)) (hf : fs[f]? = some fd) (hz : P.cellsOf fd.type ≠ 0) (hy : trO' P y = some ay)
    (he : evOp C ro (.faddr fd.offset ay) st K = some x) (hs : RS ro w0 g0 a w st g) : Val P ro w0 g0 o a w K x := by
  have ry := trO_rep hy hs.env
  simp only [evOp] at he
  have hrun : ∀ b off, a.eval y = .pointer (some ⟨b, off, none⟩) → (execOp a.eval o).run P w = .ok (.value (.pointer (some ⟨b, off + fd.offset, none⟩))) w := by
    intro b off hv
    simp only [execOp, hop, hv, Instr.fieldAt, Instr.sureAddr, Sem.run_bind, run_underlying h1, Result.andThen_ok, hf, fieldPlace_run hz, Sem.run_pure]
  split at he
  · rename_i i off hp
    rw [hp] at ry
    obtain ⟨b, hb, hv⟩ := ry.ptr_inv
    exact Val.of he (hrun b off hv) hs (.ptr _ _ _ hb) (by simp)
  · rename_i c hp
    rw [hp] at ry
    obtain ⟨b, off, hv, hcom, val, hcell, hrep⟩ := ry.rp_inv
    refine Val.of he (hrun b off hv) hs ?_ (by simp)
    refine .rp b (off + fd.offset) _ (fun j => val (fd.offset + j)) (fun h0 => by simp at h0; have := hcom (by omega); simp; omega) (fun j hj => ?_) (fun j p hj => ?_)
    · rw [Nat.add_assoc]; exact hcell _ (by simp at hj; omega)
    · rw [List.getElem?_drop] at hj; exact hrep _ _ hj
  · cases he
end
end Go.Cx
