/- A region whose order is drawn, whose last four append an element and write it: the last four. -/
import Derived.Test.YtjaeanhgcijfoaaGreatDoorCxGrow
set_option linter.unusedVariables false
set_option linter.unusedSimpArgs false
namespace Go.Cx
open Go.RowKit

theorem store_run {P : Program} {o : Oper} {ev : Operand → Value} {w : World} {t : TypeId} {y z : Operand} {b off : Nat} {cs : Array Value} {e : TypeId} (hop : o.op = .store t y z) (hi : ∃ i, P.info? t = some i)
    (hy : ev y = .pointer (some ⟨b, off, none⟩)) (hb : w.heap[b]? = some (.cells cs e (0, 0))) (hsz : (ev z).cells.size = P.cellsOf t) (hle : off + (ev z).cells.size ≤ cs.size) (hone : ∀ u ∈ (ev z).cells.toList, u.oneCell' = true) :
    (execOp ev o).run P w = .ok .skip (w.setRow b (cs.toList.take off ++ (ev z).cells.toList ++ cs.toList.drop (off + (ev z).cells.toList.length)).toArray) := by
  obtain ⟨inf, hinf⟩ := hi
  have hstore := run_storeCells_at P b off e (ev z).cells.toList 0 cs w hb (by simpa using hle) hone
  simp only [Nat.add_zero] at hstore
  have hsz' : ¬ ((ev z).cells.size ≠ P.cellsOf t) := by rw [hsz]; simp
  simp only [execOp, hop, hy, Instr.storeAt, Instr.sureAddr, storeVar, Sem.run_bind, Sem.run_pure, Result.andThen_ok, sizeOf_run hinf, if_neg hsz', hstore]

section
variable {β : Type} {P : Program} {cr : Option FuncId → Option CR} {Gl : World → Prop} {B0 ro : Nat} {w0 w w' : World} {g0 g g' : G} {o : Oper} {a : Act} {st : St} {x : β} {C : Caller} {arr : Array Oper} {k : Nat}

/-- What is listed of the last four. -/
structure ListedK (arr : Array Oper) (k : Nat) (S : List Nat) (listed : Array Bool) : Prop where
  size : listed.size = k + 4
  all : ∀ j, j < k + 4 → (listed.getD j true = false ↔ k ≤ j ∧ j ∉ S)

theorem ListedK.add {S : List Nat} {listed : Array Bool} (h : ListedK arr k S listed) {i : Nat} (hi : i < k + 4) : ListedK arr k (i :: S) (listed.setIfInBounds i true) := by
  refine ⟨by simp [h.size], fun j hj => ?_⟩
  by_cases hji : j = i
  · subst hji
    have : (listed.setIfInBounds j true).getD j true = true := by simp [Array.getD]
    rw [this]
    simp
  · rw [getD_set_ne true (Ne.symm hji), h.all j hj]
    simp [hji]
theorem ListedK.unl {S : List Nat} {listed : Array Bool} (h : ListedK arr k S listed) {j : Nat} (h1 : k ≤ j) (h2 : j < k + 4) (h3 : j ∉ S) : listed.getD j true = false := (h.all j h2).2 ⟨h1, h3⟩
theorem ListedK.lst {S : List Nat} {listed : Array Bool} (h : ListedK arr k S listed) {j : Nat} (h2 : j < k + 4) (h3 : j < k ∨ j ∈ S) : listed.getD j false = true := by
  have hne : listed.getD j true ≠ false := fun hf => by
    obtain ⟨h4, h5⟩ := (h.all j h2).1 hf
    rcases h3 with h3 | h3
    · omega
    · exact h5 h3
  have hs : j < listed.size := by rw [h.size]; exact h2
  simp [Array.getD, hs] at hne ⊢
  exact hne
theorem ListedK.mem {S : List Nat} {listed : Array Bool} (ht : TailK arr k) (h : ListedK arr k S listed) {i : Nat} (hr : i ∈ Region.ready .any arr listed) : k ≤ i ∧ i < k + 4 ∧ i ∉ S := by
  obtain ⟨hun, o, ho, _⟩ := mem_ready.1 hr
  have hlt := (Array.getElem?_eq_some_iff.1 ho).1
  rw [ht.size] at hlt
  exact ⟨((h.all i hlt).1 hun).1, hlt, ((h.all i hlt).1 hun).2⟩
theorem ListedK.rdy {S : List Nat} {listed : Array Bool} (ht : TailK arr k) (h : ListedK arr k S listed) {j : Nat} (h1 : k ≤ j) (h2 : j < k + 4) (h3 : j ∉ S) (h4 : ∀ i, k ≤ i → i < j → i ∈ S) : Region.ready .any arr listed ≠ [] := by
  have hj : j < arr.size := by rw [ht.size]; exact h2
  have : j ∈ Region.ready .any arr listed := by
    refine mem_ready.2 ⟨h.unl h1 h2 h3, arr[j], by simp [hj], fun e he hb => ?_⟩
    have := edgesBelow_get (ht.below j h1 h2) (o := arr[j]) (by simp [hj]) e he hb
    refine h.lst (by omega) ?_
    rcases Nat.lt_or_ge e.on k with hk | hk
    · exact .inl hk
    · exact .inr (h4 _ hk this)
  intro hn
  rw [hn] at this; cases this
theorem wpOp_go {i : Nat} {N : Act → World → Prop} {Q : Exit → Act → World → Prop} (ho : arr[i]? = some o) (hg : o.guard = none) (h : o.wp P a w N Q) : wpOp P arr Q i N a w := by
  unfold wpOp
  rw [ho]
  have hw : Region.wanted o (yielded arr a.tmps) = true := by simp [Region.wanted, hg]
  simp only [hw, if_true]
  exact .inl h

/-- The three orders of the last three. -/
theorem tail_orders {Q : Exit → Act → World → Prop} (ht : TailK arr k) {o6 o7 o8 o9 : Oper} (h6 : arr[k]? = some o6) (h7 : arr[k + 1]? = some o7) (h8 : arr[k + 2]? = some o8) (h9 : arr[k + 3]? = some o9)
    (g6 : o6.guard = none) (g7 : o7.guard = none) (g8 : o8.guard = none) (g9 : o9.guard = none) {d tt : Nat} (d6 : o6.dst = some d) (d7 : o7.dst = some tt) (d8 : o8.dst = none) (d9 : o9.dst = none)
    {listed : Array Bool} (hl : ListedK arr k [] listed) {sl ptr : Value} {w00 w1 w2 w3 : World} 
    (r6 : (execOp a.eval o6).run P w = .ok (.value sl) w00)
    (r7 : ∀ W, (execOp (a.put (some d) sl).eval o7).run P W = .ok (.value ptr) W)
    (r8 : (execOp ((a.put (some d) sl).put (some tt) ptr).eval o8).run P w00 = .ok .skip w1)
    (r9 : (execOp ((a.put (some d) sl).put (some tt) ptr).eval o9).run P w1 = .ok .skip w2)
    (r9' : (execOp ((a.put (some d) sl).put (some tt) ptr).eval o9).run P w00 = .ok .skip w3)
    (r9'' : (execOp (a.put (some d) sl).eval o9).run P w00 = .ok .skip w3)
    (r8' : (execOp ((a.put (some d) sl).put (some tt) ptr).eval o8).run P w3 = .ok .skip w2)
    (hq : Q .normal ((a.put (some d) sl).put (some tt) ptr) w2) : wpAny P .any arr Q 4 listed a w := by
  have hdone : ∀ {S : List Nat} {listed : Array Bool}, ListedK arr k S listed → (∀ j, k ≤ j → j < k + 4 → j ∈ S) → wpAny P .any arr Q 0 listed ((a.put (some d) sl).put (some tt) ptr) w2 := by
    intro S listed h hall
    refine ⟨?_, hq⟩
    cases hr : Region.ready .any arr listed with
    | nil => rfl
    | cons j r =>
      exfalso
      obtain ⟨e1, e2, e3⟩ := h.mem ht (show j ∈ Region.ready .any arr listed by rw [hr]; simp)
      exact e3 (hall j e1 e2)
  refine ⟨fun hr => absurd hr (hl.rdy ht (j := k) (by omega) (by omega) (by simp) (fun i h1 h2 => by omega)), fun i hi => ?_⟩
  have hik : i = k := by
    obtain ⟨e1, e2, _⟩ := hl.mem ht hi
    rcases (show i = k ∨ i = k + 1 ∨ i = k + 2 ∨ i = k + 3 by omega) with rfl | rfl | rfl | rfl
    · rfl
    · exact absurd (hl.unl (by omega) (by omega) (by simp)) (waits hi ht.e1)
    · exact absurd (hl.unl (by omega) (by omega) (by simp)) (waits hi ht.e2)
    · exact absurd (hl.unl (by omega) (by omega) (by simp)) (waits hi ht.e3)
  subst hik
  refine wpOp_go h6 g6 (wp_value r6 ?_)
  rw [d6]
  have hl1 := hl.add (i := i) (by omega)
  refine ⟨fun hr => absurd hr (hl1.rdy ht (j := i + 1) (by omega) (by omega) (by simp) (fun j h1 h2 => by simp; omega)), fun j hj => ?_⟩
  have hj' : j = i + 1 ∨ j = i + 3 := by
    obtain ⟨e1, e2, e3⟩ := hl1.mem ht hj
    simp only [List.mem_singleton] at e3
    rcases (show j = i + 1 ∨ j = i + 2 ∨ j = i + 3 by omega) with rfl | rfl | rfl
    · exact .inl rfl
    · exact absurd (hl1.unl (by omega) (by omega) (by simp)) (waits hj ht.e2)
    · exact .inr rfl
  rcases hj' with rfl | rfl
  · -- the address first
    refine wpOp_go h7 g7 (wp_value (r7 _) ?_)
    rw [d7]
    have hl2 := hl1.add (i := i + 1) (by omega)
    refine ⟨fun hr => absurd hr (hl2.rdy ht (j := i + 2) (by omega) (by omega) (by simp) (fun j h1 h2 => by simp; omega)), fun j hj => ?_⟩
    obtain ⟨e1, e2, e3⟩ := hl2.mem ht hj
    simp only [List.mem_cons, List.mem_singleton, List.not_mem_nil, or_false] at e3
    rcases (show j = i + 2 ∨ j = i + 3 by omega) with rfl | rfl
    · refine wpOp_go h8 g8 (wp_skipop r8 ?_)
      rw [d8]
      have hl3 := hl2.add (i := i + 2) (by omega)
      refine ⟨fun hr => absurd hr (hl3.rdy ht (j := i + 3) (by omega) (by omega) (by simp) (fun j h1 h2 => by simp; omega)), fun j hj => ?_⟩
      obtain ⟨e1, e2, e3⟩ := hl3.mem ht hj
      simp only [List.mem_cons, List.mem_singleton, List.not_mem_nil, or_false] at e3
      obtain rfl : j = i + 3 := by omega
      refine wpOp_go h9 g9 (wp_skipop r9 ?_)
      rw [d9]
      exact hdone (hl3.add (i := i + 3) (by omega)) (fun j h1 h2 => by simp; omega)
    · refine wpOp_go h9 g9 (wp_skipop r9' ?_)
      rw [d9]
      have hl3 := hl2.add (i := i + 3) (by omega)
      refine ⟨fun hr => absurd hr (hl3.rdy ht (j := i + 2) (by omega) (by omega) (by simp) (fun j h1 h2 => by simp; omega)), fun j hj => ?_⟩
      obtain ⟨e1, e2, e3⟩ := hl3.mem ht hj
      simp only [List.mem_cons, List.mem_singleton, List.not_mem_nil, or_false] at e3
      obtain rfl : j = i + 2 := by omega
      refine wpOp_go h8 g8 (wp_skipop r8' ?_)
      rw [d8]
      exact hdone (hl3.add (i := i + 2) (by omega)) (fun j h1 h2 => by simp; omega)
  · refine wpOp_go h9 g9 (wp_skipop r9'' ?_)
    rw [d9]
    have hl2 := hl1.add (i := i + 3) (by omega)
    refine ⟨fun hr => absurd hr (hl2.rdy ht (j := i + 1) (by omega) (by omega) (by simp) (fun j h1 h2 => by simp; omega)), fun j hj => ?_⟩
    have hj' : j = i + 1 := by
      obtain ⟨e1, e2, e3⟩ := hl2.mem ht hj
      simp only [List.mem_cons, List.mem_singleton, List.not_mem_nil, or_false] at e3
      rcases (show j = i + 1 ∨ j = i + 2 by omega) with rfl | rfl
      · rfl
      · exact absurd (hl2.unl (by omega) (by omega) (by simp)) (waits hj ht.e2)
    subst hj'
    refine wpOp_go h7 g7 (wp_value (r7 _) ?_)
    rw [d7]
    have hl3 := hl2.add (i := i + 1) (by omega)
    refine ⟨fun hr => absurd hr (hl3.rdy ht (j := i + 2) (by omega) (by omega) (by simp) (fun j h1 h2 => by simp; omega)), fun j hj => ?_⟩
    obtain ⟨e1, e2, e3⟩ := hl3.mem ht hj
    simp only [List.mem_cons, List.mem_singleton, List.not_mem_nil, or_false] at e3
    obtain rfl : j = i + 2 := by omega
    refine wpOp_go h8 g8 (wp_skipop r8' ?_)
    rw [d8]
    exact hdone (hl3.add (i := i + 2) (by omega)) (fun j h1 h2 => by simp; omega)
end
end Go.Cx
