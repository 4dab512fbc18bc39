/- Operations that leave the world as it is, more. -/
import Derived.Test.YtjaeanhgcijfoaaGreatDoorCxOps2
import Derived.Laws.Strings
set_option linter.unusedSimpArgs false
set_option linter.unusedVariables false
namespace Go.Cx
open Go.RowKit

section
variable {β : Type} {P : Program} {cr : FuncId → Option CR} {ops : List Oper} {C : Caller} {ro : Nat} {w0 w : World} {g0 g : G} {o : Oper} {a : Act} {st : St} {ao : AOp} {K : St → AV → Option β} {x : β}

theorem binInt_run {op : BinOp} {k : IntKind} {m n : Int} {L : PV → Option β} (he : binInt op k m n L = some x) (t : TypeId) (ox oy : Operand) :
    ∃ p v, L p = some x ∧ (do eqGuard op t ox oy (.int k m) (.int k n); binOp op t (.int k m) (.int k n)).run P w = .ok v w ∧ RepP w g.com v p := by
  unfold binInt at he
  cases op <;> simp only at he <;> try (cases he; done)
  case add => exact ⟨_, _, he, by simp [go_sem, binOp, Op.intArith], .int _ _⟩
  case sub => exact ⟨_, _, he, by simp [go_sem, binOp, Op.intArith], .int _ _⟩
  case mul => exact ⟨_, _, he, by simp [go_sem, binOp, Op.intArith], .int _ _⟩
  case quo =>
    obtain ⟨h0, he⟩ := cond_none_some he
    have h0 : n ≠ 0 := by simpa using h0
    exact ⟨_, _, he, by simp [go_sem, binOp, Op.intDiv, h0], .int _ _⟩
  case rem =>
    obtain ⟨h0, he⟩ := cond_none_some he
    have h0 : n ≠ 0 := by simpa using h0
    exact ⟨_, _, he, by simp [go_sem, binOp, Op.intDiv, h0], .int _ _⟩
  case eql => exact ⟨_, _, he, by simp [go_sem, binOp, Op.intCmp], .bool _⟩
  case neq => exact ⟨_, _, he, by simp [go_sem, binOp, Op.intCmp], .bool _⟩
  case lss => exact ⟨_, _, he, by simp [go_sem, binOp, Op.intCmp], .bool _⟩
  case leq => exact ⟨_, _, he, by simp [go_sem, binOp, Op.intCmp], .bool _⟩
  case gtr => exact ⟨_, _, he, by simp [go_sem, binOp, Op.intCmp], .bool _⟩
  case geq => exact ⟨_, _, he, by simp [go_sem, binOp, Op.intCmp], .bool _⟩

theorem binStr_run {op : BinOp} {m n : ByteArray} {L : PV → Option β} (he : binStr op m n L = some x) (t : TypeId) (ox oy : Operand) :
    ∃ p v, L p = some x ∧ (do eqGuard op t ox oy (.string m) (.string n); binOp op t (.string m) (.string n)).run P w = .ok v w ∧ RepP w g.com v p := by
  unfold binStr at he
  cases op <;> simp only at he <;> try (cases he; done)
  case add =>
    obtain ⟨h0, he⟩ := cond_some_none he
    have h0 : ¬ (((m.size + n.size : Nat) : Int) > IntKind.i64.max) := by
      have := Nat.le_of_ble_eq_true h0
      rw [IntKind.max_i64]
      omega
    exact ⟨_, _, he, by simp only [eqGuard_add, binOp, Op.stringOp, if_neg h0]; rfl, .str _⟩
  case eql => exact ⟨_, _, he, by simp only [eqGuard_at_string, binOp, Op.stringOp]; rfl, .bool _⟩
  case neq => exact ⟨_, _, he, by simp only [eqGuard_at_string, binOp, Op.stringOp]; rfl, .bool _⟩
  case lss => exact ⟨_, _, he, by simp only [eqGuard_at_string, binOp, Op.stringOp]; rfl, .bool _⟩

theorem shift_run {op : BinOp} {k k' : IntKind} {m n : Int} (h : op = .shl ∨ op = .shr) (h0 : ¬ n < 0) (t : TypeId) (ox oy : Operand) :
    (do eqGuard op t ox oy (.int k m) (.int k' n); binOp op t (.int k m) (.int k' n)).run P w =
      .ok (.int k (if op = .shl then k.wrap (m * 2 ^ (min n.toNat k.bits)) else m.fdiv (2 ^ (min n.toNat k.bits)))) w := by
  rcases h with rfl | rfl
  · simp only [eqGuard_shl, binOp_shl, Op.shift, if_neg h0]; rfl
  · simp only [eqGuard_shr, binOp_shr, Op.shift, if_neg h0]; rfl

theorem val_bin {op : BinOp} {t t' : TypeId} {y z : Operand} {ay az : AO} (hop : o.op = .binOp op t y z t') (hy : trO P t y = some ay) (hz : trO P t z = some az)
    (he : evOp C ro (.bin op ay az) st K = some x) (hs : RS ro w0 g0 a w st g) : Val P ro w0 g0 o a w K x := by
  have ry := (trO_rep hy hs.env).view
  have rz := (trO_rep hz hs.env).view
  have hex : (execOp a.eval o).run P w = ((do eqGuard op t y z (a.eval y) (a.eval z); binOp op t (a.eval y) (a.eval z) : Sem Value).run P w).andThen fun v w => .ok (.value v) w := by
    simp only [execOp, hop, Sem.run_bind]; rfl
  simp only [evOp, binOpA] at he
  split at he
  · rename_i k m k' n hp hq
    rw [hp] at ry; rw [hq] at rz
    rw [ry.int_inv, rz.int_inv] at hex
    split at he
    · obtain ⟨h0, he⟩ := cond_none_some he
      have h0 : ¬ n < 0 := by simpa using h0
      exact Val.of he (by rw [hex, shift_run (.inl rfl) h0]; rfl) hs (rInt _ _) (by simp)
    · obtain ⟨h0, he⟩ := cond_none_some he
      have h0 : ¬ n < 0 := by simpa using h0
      exact Val.of he (by rw [hex, shift_run (.inr rfl) h0]; rfl) hs (rInt _ _) (by simp)
    · obtain ⟨h0, he2⟩ := cond_some_none he
      clear he
      obtain rfl := same_eq h0
      obtain ⟨p, v, hl, hr, hp⟩ := binInt_run (P := P) (w := w) (g := g) he2 t y z
      exact Val.of hl (by rw [hex, hr]; rfl) hs (.pv _ _ hp) (by simp)
  · rename_i m n hp hq
    rw [hp] at ry; rw [hq] at rz
    rw [ry.str_inv, rz.str_inv] at hex
    obtain ⟨p, v, hl, hr, hp⟩ := binStr_run (P := P) (w := w) (g := g) he t y z
    exact Val.of hl (by rw [hex, hr]; rfl) hs (.pv _ _ hp) (by simp)
  · cases he

theorem val_not {t : TypeId} {y : Operand} {ay : AO} (hop : o.op = .unOp .not t y) (hy : trO' P y = some ay)
    (he : evOp C ro (.not ay) st K = some x) (hs : RS ro w0 g0 a w st g) : Val P ro w0 g0 o a w K x := by
  have ry := trO_rep hy hs.env
  simp only [evOp] at he
  split at he
  · rename_i b hp
    rw [hp] at ry
    exact Val.of he (by simp only [execOp, hop, ry.bool_inv, Op.unary]; rfl) hs (rBool _) (by simp)
  · cases he

theorem val_neg {t : TypeId} {y : Operand} {ay : AO} (hop : o.op = .unOp .neg t y) (hy : trO' P y = some ay)
    (he : evOp C ro (.neg ay) st K = some x) (hs : RS ro w0 g0 a w st g) : Val P ro w0 g0 o a w K x := by
  have ry := trO_rep hy hs.env
  simp only [evOp] at he
  split at he
  · rename_i k n hp
    rw [hp] at ry
    exact Val.of he (by simp only [execOp, hop, ry.int_inv, Op.unary, Op.intArith]; rfl) hs (rInt _ _) (by simp)
  · cases he

theorem val_conv {s t : TypeId} {k k0 : IntKind} {y : Operand} {ay : AO} (hop : o.op = .convert s t y) (h1 : P.underlying s = some (.int k0)) (h2 : P.underlying t = some (.int k)) (hy : trO P s y = some ay)
    (he : evOp C ro (.conv k ay) st K = some x) (hs : RS ro w0 g0 a w st g) : Val P ro w0 g0 o a w K x := by
  have ry := trO_rep hy hs.env
  simp only [evOp] at he
  split at he
  · rename_i k' n hp
    rw [hp] at ry
    refine Val.of he ?_ hs (rInt _ _) (by simp)
    simp only [execOp, hop, ry.int_inv, convert, Sem.run_bind, run_underlying h1, run_underlying h2, Result.andThen_ok, Conv.intToInt]
    rfl
  · cases he

theorem val_cvs {s t : TypeId} {y : Operand} {ay : AO} (hop : o.op = .convert s t y) (h1 : P.underlying s = some .string) (h2 : P.underlying t = some .string) (hy : trO P s y = some ay)
    (he : evOp C ro (.cvs ay) st K = some x) (hs : RS ro w0 g0 a w st g) : Val P ro w0 g0 o a w K x := by
  have ry := trO_rep hy hs.env
  simp only [evOp] at he
  split at he
  · rename_i n hp
    rw [hp] at ry
    refine Val.of he (v := .string n) ?_ hs ?_ (by simp)
    · simp only [execOp, hop, ry.str_inv, convert, Sem.run_bind, run_underlying h1, run_underlying h2, Result.andThen_ok]
      rfl
    · rw [← ry.str_inv]; exact ry
  · cases he
end
end Go.Cx
