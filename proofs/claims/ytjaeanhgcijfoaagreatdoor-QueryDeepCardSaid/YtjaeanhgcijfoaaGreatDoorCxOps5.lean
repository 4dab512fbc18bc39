/- Operations that leave the world as it is: fields of values, elements, lengths, loads. -/
import Derived.Test.YtjaeanhgcijfoaaGreatDoorCxOps4
import Derived.Laws.BytesString
import Derived.Lib.MinMax
import Derived.Laws.Cells
set_option linter.unusedSimpArgs false
set_option linter.unusedVariables false
namespace Go.Cx
open Go.RowKit

section
variable {β : Type} {P : Program} {cr : FuncId → Option CR} {ops : List Oper} {C : Caller} {ro : Nat} {w0 w : World} {g0 g : G} {o : Oper} {a : Act} {st : St} {ao : AOp} {K : St → AV → Option β} {x : β}

theorem toPV_rep {v : Value} {y : AV} {p : PV} (h : toPV y = some p) (hr : RepA w g v y) : RepP w g.com v p := by
  cases y <;> simp [toPV] at h
  · subst h; exact hr.pv_inv
  · subst h; cases hr with | own _ _ _ h => exact h
  · subst h; cases hr; exact .sl0 _ _ _

theorem toPVs_inv : ∀ {l : List AV} {ps : List PV}, toPVs l = some ps → l.length = ps.length ∧ ∀ (j : Nat) (y : AV) (p : PV), l[j]? = some y → ps[j]? = some p → toPV y = some p
  | [], ps, h => by simp [toPVs] at h; subst h; simp
  | y :: r, ps, h => by
    simp only [toPVs] at h
    split at h
    · rename_i p q hp hq
      simp at h; subst h
      obtain ⟨h1, h2⟩ := toPVs_inv hq
      refine ⟨by simp [h1], fun j y' p' hy hp' => ?_⟩
      cases j with
      | zero => simp at hy hp'; subst hy; subst hp'; exact hp
      | succ j => simp at hy hp'; exact h2 j y' p' hy hp'
    · cases h

theorem mkAgg_rep {cs : Array Value} {l : List AV} (hs : cs.size = l.length) (hr : ∀ (j : Nat) (v : Value) (y : AV), cs[j]? = some v → l[j]? = some y → RepA w g v y) : RepA w g (.agg cs) (mkAgg l) := by
  unfold mkAgg
  split
  · rename_i ps hp
    obtain ⟨h1, h2⟩ := toPVs_inv hp
    refine .pv _ _ (.agg _ _ (hs.trans h1) fun j v p hv hp => ?_)
    have hj : j < l.length := by rw [h1]; exact (List.getElem?_eq_some_iff.1 hp).1
    exact toPV_rep (h2 j l[j] p (by simp [hj]) hp) (hr j v l[j] hv (by simp [hj]))
  · refine .agg _ _ (by simpa using hs) fun j v y hv hy => ?_
    rw [List.getElem?_map] at hy
    obtain ⟨z, hz, rfl⟩ := Option.map_eq_some_iff.1 hy
    exact (hr j v z hv hz).view

theorem mkAgg_ne (l : List AV) (sz xs) : mkAgg l ≠ .own sz xs := by unfold mkAgg; split <;> simp

theorem isAgg_run (t : TypeId) (h : P.underlying t ≠ none) (w : World) : (isAgg t).run P w = .ok (isAggB P t) w := by
  cases hu : P.underlying t with
  | none => exact absurd hu h
  | some d =>
    unfold isAgg isAggB
    simp only [Sem.run_bind, run_underlying hu, Result.andThen_ok, hu]
    cases d <;> rfl

theorem info_of_underlying {t : TypeId} (h : P.underlying t ≠ none) : ∃ i, P.info? t = some i := by
  cases hi : P.info? t with
  | none => simp [Program.underlying, hi] at h
  | some i => exact ⟨i, rfl⟩
theorem sizeOf_run {t : TypeId} {i : TypeInfo} (h : P.info? t = some i) (w : World) : (sizeOf t).run P w = .ok (P.cellsOf t) w := by
  simp [sizeOf, typeInfo, h, Program.cellsOf]
theorem underlying_of_info {t : TypeId} {n : Nat} (h : P.cellsOf t = n) (hn : n ≠ 0) : ∃ i, P.info? t = some i := by
  cases hi : P.info? t with
  | none => simp [Program.cellsOf, hi] at h; omega
  | some i => exact ⟨i, rfl⟩

theorem val_fld {t : TypeId} {fs : Array Field} {f : Nat} {fd : Field} {y : Operand} {ay : AO} {n : Option Nat} (hop : o.op = .field t y f) (h1 : P.underlying t = some (.struct fs)) (hf : fs[f]? = some fd)
    (hn : (n = some (P.cellsOf fd.type) ∧ isAggB P fd.type = true) ∨ (n = none ∧ isAggB P fd.type = false)) (hu : P.underlying fd.type ≠ none) (hy : trO P t y = some ay)
    (he : evOp C ro (.fld fd.offset n ay) st K = some x) (hs : RS ro w0 g0 a w st g) : Val P ro w0 g0 o a w K x := by
  have ry := trO_rep hy hs.env
  simp only [evOp] at he
  obtain ⟨i, hi⟩ := info_of_underlying hu
  have hrun : ∀ cs, a.eval y = .agg cs → (execOp a.eval o).run P w = ((part fd.type cs fd.offset).run P w).andThen fun v w => .ok (.value v) w := by
    intro cs hv
    simp only [execOp, hop, hv, Instr.field, asAgg, Sem.run_bind, run_underlying h1, Result.andThen_ok, hf, Sem.run_pure]
  have hpart1 : ∀ cs : Array Value, isAggB P fd.type = true → (part fd.type cs fd.offset).run P w = .ok (.agg (cs.extract fd.offset (fd.offset + P.cellsOf fd.type))) w := by
    intro cs hb
    simp only [part, Sem.run_bind, isAgg_run _ hu, Result.andThen_ok, hb, if_true, sizeOf_run hi, Sem.run_pure]
  have hpart2 : ∀ (cs : Array Value) (v : Value), cs[fd.offset]? = some v → isAggB P fd.type = false → (part fd.type cs fd.offset).run P w = .ok v w := by
    intro cs v hv hb
    simp only [part, Sem.run_bind, isAgg_run _ hu, Result.andThen_ok, hb, Bool.false_eq_true, if_false, hv, Sem.run_pure]
  have hext : ∀ (cs : Array Value) (m : Nat), fd.offset + m ≤ cs.size → ∀ (j : Nat) (v : Value), (cs.extract fd.offset (fd.offset + m))[j]? = some v → cs[fd.offset + j]? = some v ∧ j < m := by
    intro cs m hm j v hv
    rw [Array.getElem?_extract] at hv
    split at hv
    · exact ⟨hv, by omega⟩
    · cases hv
  split at he
  · rename_i c hp
    rw [hp] at ry
    have ry := ry.pv_inv
    cases hv : a.eval y with
    | agg cs =>
      rw [hv] at ry
      cases ry with
      | agg _ _ hsz hr =>
        rcases hn with ⟨rfl, hb⟩ | ⟨rfl, hb⟩
        · simp only at he
          obtain ⟨hc, he⟩ := cond_some_none he
          have hc := Nat.le_of_ble_eq_true hc
          refine Val.of he (by rw [hrun cs hv, hpart1 cs hb]; rfl) hs (.pv _ _ (.agg _ _ ?_ fun j v p hv hp => ?_)) (by simp)
          · simp; omega
          · obtain ⟨h2, h3⟩ := hext cs _ (by omega) j v hv
            rw [List.getElem?_take, if_pos h3, List.getElem?_drop] at hp
            exact hr _ _ _ h2 hp
        · simp only at he
          obtain ⟨hc, he⟩ := cond_some_none he
          have hc : fd.offset < c.length := by have := Nat.le_of_ble_eq_true hc; omega
          have hlt : fd.offset < cs.size := by omega
          refine Val.of he (by rw [hrun cs hv, hpart2 cs cs[fd.offset] (by simp [hlt]) hb]; rfl) hs (.pv _ _ ?_) (by simp)
          exact hr fd.offset _ _ (by simp [hlt]) (by simp [List.getD, hc])
    | _ => rw [hv] at ry; cases ry
  · rename_i c hp
    rw [hp] at ry
    cases hv : a.eval y with
    | agg cs =>
      rw [hv] at ry
      cases ry with
      | agg _ _ hsz hr =>
        rcases hn with ⟨rfl, hb⟩ | ⟨rfl, hb⟩
        · simp only at he
          obtain ⟨hc, he⟩ := cond_some_none he
          have hc := Nat.le_of_ble_eq_true hc
          refine Val.of he (by rw [hrun cs hv, hpart1 cs hb]; rfl) hs (mkAgg_rep ?_ fun j v p hv hp => ?_) (mkAgg_ne _)
          · simp; omega
          · obtain ⟨h2, h3⟩ := hext cs _ (by omega) j v hv
            rw [List.getElem?_take, if_pos h3, List.getElem?_drop] at hp
            exact hr _ _ _ h2 hp
        · simp only at he
          obtain ⟨hc, he⟩ := cond_some_none he
          have hc : fd.offset < c.length := by have := Nat.le_of_ble_eq_true hc; omega
          have hlt : fd.offset < cs.size := by omega
          refine Val.of he (by rw [hrun cs hv, hpart2 cs cs[fd.offset] (by simp [hlt]) hb]; rfl) hs (RepA.view ?_) (view_ne _)
          exact hr fd.offset _ _ (by simp [hlt]) (by simp [List.getD, hc])
    | _ => rw [hv] at ry; cases ry
  · cases he

theorem val_iaddr {t e : TypeId} {y z : Operand} {ay az : AO} (hop : o.op = .indexAddr t y z) (h1 : P.underlying t = some (.slice e)) (hi0 : (P.info? e).isSome = true) (hy : trO P t y = some ay) (hz : trO' P z = some az)
    (he : evOp C ro (.iaddr (P.cellsOf e) ay az) st K = some x) (hs : RS ro w0 g0 a w st g) : Val P ro w0 g0 o a w K x := by
  have ry := (trO_rep hy hs.env).view
  have rz := trO_rep hz hs.env
  simp only [evOp] at he
  split at he
  · rename_i sz xs k n hp hq
    rw [hp] at ry; rw [hq] at rz
    have ry := ry.pv_inv
    obtain ⟨hc, he⟩ := cond_some_none he
    simp only [Bool.and_eq_true, decide_eq_true_eq] at hc
    obtain ⟨⟨hsz, h0⟩, hlt⟩ := hc
    have hsz : sz = P.cellsOf e := Nat.eq_of_beq_eq_true hsz
    obtain ⟨A, c, hv, hcap, hr⟩ := ry.sl_inv
    have hne : xs ≠ [] := by intro h; subst h; simp at hlt; omega
    obtain ⟨b, off, rfl, hcom, hall, val, hcell, _, hrep⟩ := hr hne
    obtain ⟨inf, hinf⟩ := Option.isSome_iff_exists.1 hi0
    have hsize : inf.size = sz := by rw [hsz]; simp [Program.cellsOf, hinf]
    have hk : n.toNat < xs.length := by omega
    have hlen := hall n.toNat xs[n.toNat] (by simp [hk])
    refine Val.of he (v := .pointer (some ⟨b, off + n.toNat * sz, none⟩)) ?_ hs ?_ (by simp)
    · have hcnd : 0 ≤ n ∧ n < (xs.length : Int) := ⟨h0, hlt⟩
      simp only [execOp, hop, hv, rz.int_inv, Instr.indexAt, asIntOf, Sem.run_bind, run_underlying h1, Result.andThen_ok, sizeOf, typeInfo, hinf, run_program, Sem.run_pure, hcnd, and_self, if_true, hsize, Addr.add_lit]
    · have e1 : xs.getD n.toNat [] = xs[n.toNat] := by simp [List.getD, hk]
      rw [e1]
      have hb1 : (n.toNat + 1) * sz ≤ xs.length * sz := Nat.mul_le_mul_right _ hk
      have hb2 : (n.toNat + 1) * sz = n.toNat * sz + sz := by rw [Nat.add_mul, Nat.one_mul]
      refine .rp b _ _ (fun j => val n.toNat j) (fun _ => by rw [hlen]; omega) (fun j hj => ?_) (fun j p hj => ?_)
      · exact hcell _ _ hk (by rw [hlen] at hj; exact hj)
      · exact hrep n.toNat j xs[n.toNat] p (by simp [hk]) hj
  · cases he

theorem val_idxs {t : TypeId} {y z : Operand} {ay az : AO} (hop : o.op = .index t y z) (h1 : P.underlying t = some .string) (hy : trO P t y = some ay) (hz : trO' P z = some az)
    (he : evOp C ro (.idxs ay az) st K = some x) (hs : RS ro w0 g0 a w st g) : Val P ro w0 g0 o a w K x := by
  have ry := trO_rep hy hs.env
  have rz := trO_rep hz hs.env
  simp only [evOp] at he
  split at he
  · rename_i s k n hp hq
    rw [hp] at ry; rw [hq] at rz
    obtain ⟨hc, he⟩ := cond_some_none he
    simp only [Bool.and_eq_true, decide_eq_true_eq] at hc
    have hlt : n.toNat < s.size := by omega
    have hg : s[n.toNat]? = some s[n.toNat] := by simp [hlt]
    refine Val.of he ?_ hs (rInt _ _) (by simp)
    have e1 : byteAt s n = ((s[n.toNat]).toNat : Int) := by
      have hl : n.toNat < s.data.toList.length := by simpa using hlt
      have : s.data.toList.getD n.toNat 0 = s[n.toNat] := by
        rw [List.getD_eq_getElem?_getD, List.getElem?_eq_getElem hl]
        rfl
      unfold byteAt
      rw [this]
    rw [e1]
    simp only [execOp, hop, ry.str_inv, rz.int_inv, Instr.index, asIntOf, Sem.run_bind, run_underlying h1, Result.andThen_ok, Sem.run_pure, hc.1, if_true, hg]
  · cases he

theorem val_lens {t : TypeId} {c : Call} {y : Operand} {ay : AO} (hop : o.op = .call c) (hcb : c.callee = .builtin .len) (hca : c.args.toList = [y]) (hct : c.argTypes.toList = [t])
    (h1 : P.underlying t = some .string) (hy : trO P t y = some ay)
    (he : evOp C ro (.lens ay) st K = some x) (hs : RS ro w0 g0 a w st g) : Val P ro w0 g0 o a w K x := by
  have ry := trO_rep hy hs.env
  have e1 : c.args = #[y] := by rw [← Array.toArray_toList (xs := c.args), hca]
  have e2 : c.argTypes = #[t] := by rw [← Array.toArray_toList (xs := c.argTypes), hct]
  simp only [evOp] at he
  split at he
  · rename_i s hp
    rw [hp] at ry
    refine Val.of he ?_ hs (rInt _ _) (by simp)
    simp [execOp, hop, resolve, hcb, e1, e2, invoke, builtin, Builtin.len_, run_underlying h1, ry.str_inv, goInt]
  · cases he

theorem val_len {t e : TypeId} {c : Call} {y : Operand} {ay : AO} (hop : o.op = .call c) (hcb : c.callee = .builtin .len) (hca : c.args.toList = [y]) (hct : c.argTypes.toList = [t])
    (h1 : P.underlying t = some (.slice e)) (hy : trO P t y = some ay)
    (he : evOp C ro (.len ay) st K = some x) (hs : RS ro w0 g0 a w st g) : Val P ro w0 g0 o a w K x := by
  have ry := (trO_rep hy hs.env).view
  have e1 : c.args = #[y] := by rw [← Array.toArray_toList (xs := c.args), hca]
  have e2 : c.argTypes = #[t] := by rw [← Array.toArray_toList (xs := c.argTypes), hct]
  simp only [evOp] at he
  split at he
  · rename_i sz xs hp
    rw [hp] at ry
    obtain ⟨A, cp, hv, _⟩ := ry.pv_inv.sl_inv
    refine Val.of he ?_ hs (rInt _ _) (by simp)
    simp [execOp, hop, resolve, hcb, e1, e2, invoke, builtin, Builtin.len_, run_underlying h1, hv, goInt]
  · cases he

theorem val_bstr {s t e : TypeId} {y : Operand} {ay : AO} (hop : o.op = .convert s t y) (h1 : P.underlying s = some (.slice e)) (h3 : P.underlying e = some (.int .u8)) (h2 : P.underlying t = some .string) (hy : trO P s y = some ay)
    (he : evOp C ro (.bstr ay) st K = some x) (hs : RS ro w0 g0 a w st g) : Val P ro w0 g0 o a w K x := by
  have ry := (trO_rep hy hs.env).view
  simp only [evOp] at he
  split at he
  · rename_i sz xs hp
    rw [hp] at ry
    have ry := ry.pv_inv
    obtain ⟨hc, he2⟩ := cond_some_none he
    clear he
    simp only [Bool.and_eq_true] at hc
    have hsz : sz = 1 := Nat.eq_of_beq_eq_true hc.1
    subst hsz
    obtain ⟨A, c, hv, hcap, hr⟩ := ry.sl_inv
    refine Val.of he2 (v := .string (bytesOf xs)) ?_ hs (.pv _ _ (.str _)) (by simp)
    have hb : (Conv.bytesToString (.slice A xs.length c)).run P w = .ok (.string (bytesOf xs)) w := by
      by_cases hne : xs = []
      · subst hne
        cases A with
        | none => rfl
        | some A =>
          have h0 := run_loadCells (P := P) w A 0 (fun _ => undef) (fun j hj => absurd hj (Nat.not_lt_zero _))
          have := run_bytesToString (P := P) w A 0 c [] (by simpa using h0)
          exact this
      · obtain ⟨b, off, rfl, hcom, hall, val, hcell, _, hrep⟩ := hr hne
        have hval : ∀ i, i < xs.length → val i 0 = .int .u8 (rowInt (xs.getD i [])) := by
          intro i hi
          have hx : xs[i]? = some xs[i] := by simp [hi]
          have hu : isU8 xs[i] = true := by
            have := List.all_eq_true.1 hc.2 xs[i] (List.getElem_mem hi)
            exact this
          have hl := hall i _ hx
          have e1 : xs.getD i [] = xs[i] := by simp [List.getD, hi]
          obtain ⟨p, hp⟩ := List.length_eq_one_iff.1 hl
          rw [e1]
          rw [hp] at hu hx ⊢
          have hrp := hrep i 0 [p] p hx rfl
          cases p <;> simp [isU8, PV.isInt] at hu
          rename_i k n
          have := same_eq hu
          subst this
          have hi := hrp.int_inv
          rw [hi]
          simp [rowInt, PV.toInt]
        have hload := run_loadCells (P := P) w ⟨b, off, none⟩ xs.length (fun j => val j 0) (fun j hj => by
          rw [Addr.add_lit]
          have := hcell j 0 hj (by omega)
          simpa using this)
        have hmap : (List.range xs.length).map (fun j => val j 0) = (xs.map rowInt).map (Value.int .u8) := by
          apply List.ext_getElem
          · simp
          · intro i h1 h2
            simp only [List.length_map, List.length_range] at h1
            simp only [List.getElem_map, List.getElem_range]
            rw [hval i h1]
            simp [List.getD, h1]
        rw [hmap] at hload
        rw [run_bytesToString w ⟨b, off, none⟩ xs.length c _ hload]
        rfl
    simp only [execOp, hop, hv, Sem.run_bind]
    rw [run_convert_bytes_string w s t e A xs.length c h1 h3 h2, hb]
    rfl
  · cases he

theorem val_mm {mx : Bool} {c : Call} {y z : Operand} {ay az : AO} (hop : o.op = .call c) (hcb : (c.callee = .builtin .min ∧ mx = false) ∨ (c.callee = .builtin .max ∧ mx = true)) (hca : c.args.toList = [y, z]) (hy : trO' P y = some ay) (hz : trO' P z = some az)
    (he : evOp C ro (.mm mx ay az) st K = some x) (hs : RS ro w0 g0 a w st g) : Val P ro w0 g0 o a w K x := by
  have ry := trO_rep hy hs.env
  have rz := trO_rep hz hs.env
  have e1 : c.args = #[y, z] := by rw [← Array.toArray_toList (xs := c.args), hca]
  simp only [evOp] at he
  split at he
  · rename_i k m k' n hp hq
    rw [hp] at ry; rw [hq] at rz
    obtain ⟨hk, he2⟩ := cond_some_none he
    clear he
    obtain rfl := same_eq hk
    refine Val.of he2 ?_ hs (rInt _ _) (by simp)
    rcases hcb with ⟨hcb, rfl⟩ | ⟨hcb, rfl⟩
    · simp [execOp, hop, resolve, hcb, e1, invoke, builtin, ry.int_inv, rz.int_inv, Lib.run_min_ints]
    · simp [execOp, hop, resolve, hcb, e1, invoke, builtin, ry.int_inv, rz.int_inv, Lib.run_max_ints]
  · cases he

theorem val_extract {i : Nat} {y : Operand} {ay : AO} (hop : o.op = .extract y i) (hy : trO' P y = some ay)
    (he : evOp C ro (.extract ay i) st K = some x) (hs : RS ro w0 g0 a w st g) : Val P ro w0 g0 o a w K x := by
  have ry := trO_rep hy hs.env
  simp only [evOp] at he
  split at he
  · rename_i c hp
    rw [hp] at ry
    have ry := ry.pv_inv
    obtain ⟨hc, he⟩ := cond_some_none he
    have hc : i < c.length := by have := Nat.le_of_ble_eq_true hc; omega
    cases hv : a.eval y with
    | tuple cs =>
      rw [hv] at ry
      cases ry with
      | tup _ _ hsz hr =>
        have hlt : i < cs.size := by omega
        refine Val.of he (v := cs[i]) ?_ hs (.pv _ _ (hr i _ _ (by simp [hlt]) (by simp [List.getD, hc]))) (by simp)
        simp [execOp, hop, hv, Instr.extract, hlt]
    | _ => rw [hv] at ry; cases ry
  · rename_i c hp
    rw [hp] at ry
    obtain ⟨hc, he⟩ := cond_some_none he
    have hc : i < c.length := by have := Nat.le_of_ble_eq_true hc; omega
    cases hv : a.eval y with
    | tuple cs =>
      rw [hv] at ry
      cases ry with
      | tup _ _ hsz hr =>
        have hlt : i < cs.size := by omega
        refine Val.of he (v := cs[i]) ?_ hs (RepA.view (hr i _ _ (by simp [hlt]) (by simp [List.getD, hc]))) (view_ne _)
        simp [execOp, hop, hv, Instr.extract, hlt]
    | _ => rw [hv] at ry; cases ry
  · cases he

theorem trOs_rep : ∀ {l : List Operand} {as : List AO}, trOs P l = some as → RepE w g a.tmps st.env →
    l.length = as.length ∧ ∀ (j : Nat) (y : Operand) (z : AO), l[j]? = some y → as[j]? = some z → RepA w g (a.eval y) (st.get z)
  | [], as, h, _ => by simp [trOs] at h; subst h; simp
  | y :: r, as, h, he => by
    simp only [trOs] at h
    split at h
    · rename_i p q hp hq
      simp at h; subst h
      obtain ⟨h1, h2⟩ := trOs_rep hq he
      refine ⟨by simp [h1], fun j y' z' hy hz => ?_⟩
      cases j with
      | zero => simp at hy hz; subst hy; subst hz; exact trO_rep hp he
      | succ j => simp at hy hz; exact h2 j y' z' hy hz
    · cases h

theorem evals_rep {ys : Array Operand} {as : List AO} (h : ys.toList.length = as.length) (hr : ∀ (j : Nat) (y : Operand) (z : AO), ys.toList[j]? = some y → as[j]? = some z → RepA w g (a.eval y) (st.get z)) :
    (ys.map a.eval).size = (as.map fun x => (st.get x).view).length ∧ ∀ (j : Nat) (v : Value) (y : AV), (ys.map a.eval)[j]? = some v → (as.map fun x => (st.get x).view)[j]? = some y → RepA w g v y := by
  refine ⟨by simpa using h, fun j v y hv hy => ?_⟩
  rw [Array.getElem?_map] at hv
  rw [List.getElem?_map] at hy
  obtain ⟨u, hu, rfl⟩ := Option.map_eq_some_iff.1 hv
  obtain ⟨z, hz, rfl⟩ := Option.map_eq_some_iff.1 hy
  exact (hr j u z (by simpa using hu) hz).view

theorem val_mkfn {f : FuncId} {ys zs : Array Operand} {as bs : List AO} (hop : o.op = .makeFunc (.func f) ys zs) (hy : trOs P ys.toList = some as) (hz : trOs P zs.toList = some bs)
    (he : evOp C ro (.mkfn f as bs) st K = some x) (hs : RS ro w0 g0 a w st g) : Val P ro w0 g0 o a w K x := by
  obtain ⟨h1, h2⟩ := trOs_rep hy hs.env
  obtain ⟨h3, h4⟩ := trOs_rep hz hs.env
  obtain ⟨e1, e2⟩ := evals_rep h1 h2
  obtain ⟨e3, e4⟩ := evals_rep h3 h4
  simp only [evOp] at he
  exact Val.of he (by simp only [execOp, hop, Instr.makeFunc]; rfl) hs (.fn f _ _ _ _ e1 e3 e2 e4) (by simp)

theorem val_mkif {t : TypeId} {y : Operand} {ay : AO} {d : TypeDesc} (hop : o.op = .makeInterface t y) (h1 : P.underlying t = some d) (hd : ∀ ms, d ≠ .interface ms) (hy : trO P t y = some ay)
    (he : evOp C ro (.mkif t ay) st K = some x) (hs : RS ro w0 g0 a w st g) : Val P ro w0 g0 o a w K x := by
  have ry := (trO_rep hy hs.env).view
  simp only [evOp] at he
  split at he
  · cases he
  · rename_i p _ hp
    rw [hp] at ry
    refine Val.of he (v := .iface t (a.eval y)) ?_ hs (.pv _ _ (.iface _ _ _ ry.pv_inv)) (by simp)
    cases d <;> first | exact absurd rfl (hd _) | simp [execOp, hop, Instr.makeInterface, run_underlying h1]
  · cases he

theorem RepA.nilp_inv {v : Value} (h : RepA w g v (.pv .nilp)) : v = .pointer none := by cases h with | pv _ _ h => cases h; rfl

theorem equalIn_bool (d : Nat) {t : TypeId} (h1 : P.underlying t = some .bool) (m n : Bool) : (Op.equalIn (d + 1) t (.bool m) (.bool n)).run P w = .ok (m == n) w := by
  simp only [Op.equalIn, Sem.run_bind, run_underlying h1, Result.andThen_ok, Sem.run_pure]
theorem equalIn_ptr (d : Nat) {t e : TypeId} (h1 : P.underlying t = some (.pointer e)) (p q : Option Addr) (hnil : p = none ∨ q = none) : (Op.equalIn (d + 1) t (.pointer p) (.pointer q)).run P w = .ok (p.isNone && q.isNone) w := by
  rcases hnil with rfl | rfl
  · cases q <;> simp [Op.equalIn, Sem.run_bind, run_underlying h1]
  · cases p <;> simp [Op.equalIn, Sem.run_bind, run_underlying h1]

theorem val_eqb {neg : Bool} {op : BinOp} {t t' : TypeId} {y z : Operand} {ay az : AO} (hop : o.op = .binOp op t y z t') (h1 : P.underlying t = some .bool) (hn : (op = .eql ∧ neg = false) ∨ (op = .neq ∧ neg = true))
    (hy : trO P t y = some ay) (hz : trO P t z = some az) (he : evOp C ro (.eqb neg ay az) st K = some x) (hs : RS ro w0 g0 a w st g) : Val P ro w0 g0 o a w K x := by
  have ry := trO_rep hy hs.env
  have rz := trO_rep hz hs.env
  simp only [evOp] at he
  split at he
  · rename_i m n hp hq
    rw [hp] at ry; rw [hq] at rz
    have heq : (Op.equal t (.bool m) (.bool n)).run P w = .ok (m == n) w := equalIn_bool 9999 h1 m n
    rcases hn with ⟨rfl, rfl⟩ | ⟨rfl, rfl⟩
    · refine Val.of he ?_ hs (rBool _) (by simp)
      simp only [execOp, hop, ry.bool_inv, rz.bool_inv, eqGuard_at_bool, binOp, Sem.run_bind, Sem.run_pure, Result.andThen_ok, heq, cond]
    · refine Val.of he ?_ hs (rBool _) (by simp)
      simp only [execOp, hop, ry.bool_inv, rz.bool_inv, eqGuard_at_bool, binOp, Sem.run_bind, Sem.run_pure, Result.andThen_ok, heq, cond]
  · cases he

theorem val_eqp {neg : Bool} {op : BinOp} {t t' e : TypeId} {y z : Operand} {ay az : AO} (hop : o.op = .binOp op t y z t') (h1 : P.underlying t = some (.pointer e)) (hn : (op = .eql ∧ neg = false) ∨ (op = .neq ∧ neg = true))
    (hy : trO P t y = some ay) (hz : trO P t z = some az) (he : evOp C ro (.eqp neg ay az) st K = some x) (hs : RS ro w0 g0 a w st g) : Val P ro w0 g0 o a w K x := by
  have ry := trO_rep hy hs.env
  have rz := trO_rep hz hs.env
  simp only [evOp] at he
  split at he
  · rename_i r hr
    have key : ∃ p q : Option Addr, a.eval y = .pointer p ∧ a.eval z = .pointer q ∧ (p = none ∨ q = none) ∧ r = (p.isNone && q.isNone) := by
      unfold eqPtr at hr
      split at hr <;> (try cases hr) <;> rename_i hp hq <;> rw [hp] at ry <;> rw [hq] at rz
      · obtain ⟨b, _, hv⟩ := ry.ptr_inv
        have h2 : a.eval z = .pointer none := rz.nilp_inv
        exact ⟨_, _, hv, h2, .inr rfl, rfl⟩
      · obtain ⟨b, off, hv, _⟩ := ry.rp_inv
        have h2 : a.eval z = .pointer none := rz.nilp_inv
        exact ⟨_, _, hv, h2, .inr rfl, rfl⟩
      · obtain ⟨b, _, hv⟩ := rz.ptr_inv
        have h2 : a.eval y = .pointer none := ry.nilp_inv
        exact ⟨_, _, h2, hv, .inl rfl, rfl⟩
      · obtain ⟨b, off, hv, _⟩ := rz.rp_inv
        have h2 : a.eval y = .pointer none := ry.nilp_inv
        exact ⟨_, _, h2, hv, .inl rfl, rfl⟩
      · have h2 : a.eval y = .pointer none := ry.nilp_inv
        have h3 : a.eval z = .pointer none := rz.nilp_inv
        exact ⟨_, _, h2, h3, .inl rfl, rfl⟩
    obtain ⟨p, q, hv1, hv2, hnil, rfl⟩ := key
    have heq : (Op.equal t (.pointer p) (.pointer q)).run P w = .ok (p.isNone && q.isNone) w := equalIn_ptr 9999 h1 p q hnil
    have hb : ∀ op, op = .eql ∨ op = .neq → binOp op t (.pointer p) (.pointer q) = (if op = .eql then (do pure (.bool (← Op.equal t (.pointer p) (.pointer q)))) else (do pure (.bool (!(← Op.equal t (.pointer p) (.pointer q)))))) := by
      intro op h
      rcases h with rfl | rfl <;> cases p <;> cases q <;> rfl
    rcases hn with ⟨rfl, rfl⟩ | ⟨rfl, rfl⟩
    · refine Val.of he ?_ hs (rBool _) (by simp)
      simp only [execOp, hop, hv1, hv2, eqGuard_at_pointer, hb .eql (.inl rfl), if_true, Sem.run_bind, Sem.run_pure, Result.andThen_ok, heq, cond]
    · refine Val.of he ?_ hs (rBool _) (by simp)
      simp only [execOp, hop, hv1, hv2, eqGuard_at_pointer, hb .neq (.inr rfl), if_false, reduceCtorEq, Sem.run_bind, Sem.run_pure, Result.andThen_ok, heq, cond]
  · cases he
end
end Go.Cx
