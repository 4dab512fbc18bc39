/- A region whose order is drawn, whose last four append an element and write it: the first ones. -/
import Derived.Test.YtjaeanhgcijfoaaGreatDoorCxGrow1
set_option linter.unusedVariables false
set_option linter.unusedSimpArgs false
namespace Go.Cx
open Go.RowKit
section
variable {β : Type} {P : Program} {cr : Option FuncId → Option CR} {Gl : World → Prop} {B0 ro : Nat} {w0 w w' : World} {g0 g g' : G} {o : Oper} {a : Act} {st : St} {x : β} {C : Caller} {arr : Array Oper} {k : Nat}

structure ItemsK (P : Program) (cr : Option FuncId → Option CR) (arr : Array Oper) (k : Nat) (listed : Array Bool) (items : List (Nat × DIn)) : Prop where
  size : listed.size = arr.size
  closed : Closed arr listed
  all : ∀ j, j < arr.size → (listed.getD j true = false ↔ (∃ p ∈ items, p.1 = j) ∨ k ≤ j)
  lt : ∀ p ∈ items, p.1 < k
  nodup : (items.map (·.1)).Nodup
  pairs : okPairs arr.toList items = true
  order : Ordered arr listed items
  tr : ∀ p ∈ items, ∃ o, arr[p.1]? = some o ∧ trIn P cr arr.toList o = some p.2.ai

theorem ItemsK.del {listed : Array Bool} {pre post : List (Nat × DIn)} {i : Nat × DIn} (h : ItemsK P cr arr k listed (pre ++ i :: post)) (hr : i.1 ∈ Region.ready .any arr listed) :
    ItemsK P cr arr k (listed.setIfInBounds i.1 true) (pre ++ post) := by
  obtain ⟨hun, o, ho, hall⟩ := mem_ready.1 hr
  have hlt : i.1 < arr.size := (Array.getElem?_eq_some_iff.1 ho).1
  have hik : i.1 < k := h.lt i (by simp)
  have hsub : ∀ p, p ∈ pre ++ post → p ∈ pre ++ i :: post := fun p hp => by
    rcases List.mem_append.1 hp with hp | hp
    · exact List.mem_append_left _ hp
    · exact List.mem_append_right _ (List.mem_cons_of_mem _ hp)
  have hnd := h.nodup
  rw [List.map_append, List.map_cons, List.nodup_append] at hnd
  obtain ⟨n1, n2, n3⟩ := hnd
  rw [List.nodup_cons] at n2
  have hne : ∀ p ∈ pre ++ post, p.1 ≠ i.1 := by
    intro p hp e
    rcases List.mem_append.1 hp with hp | hp
    · exact n3 p.1 (List.mem_map_of_mem hp) i.1 (by simp) e
    · exact n2.1 (by rw [← e]; exact List.mem_map_of_mem hp)
  refine ⟨by simp [h.size], fun j o' ho' hj e he hb => ?_, fun j hj => ?_, fun p hp => h.lt p (hsub p hp), ?_, okPairs_del h.pairs, fun pre' k' post' heq o' ho' e he hb => ?_, fun p hp => h.tr p (hsub p hp)⟩
  · by_cases hji : j = i.1
    · subst hji
      rw [ho] at ho'; cases ho'
      exact getD_set_true (hall e he hb)
    · rw [getD_set_ne false (Ne.symm hji)] at hj
      exact getD_set_true (h.closed j o' ho' hj e he hb)
  · by_cases hji : j = i.1
    · subst hji
      constructor
      · intro h2
        have : (listed.setIfInBounds i.1 true).getD i.1 true = true := by simp [Array.getD]
        rw [this] at h2; cases h2
      · rintro (⟨p, hp, e⟩ | h2)
        · exact absurd e (hne p hp)
        · omega
    · rw [getD_set_ne true (Ne.symm hji), h.all j hj]
      constructor
      · rintro (⟨p, hp, rfl⟩ | h2)
        · left
          refine ⟨p, ?_, rfl⟩
          rcases List.mem_append.1 hp with hp | hp
          · exact List.mem_append_left _ hp
          · rcases List.mem_cons.1 hp with rfl | hp
            · exact absurd rfl hji
            · exact List.mem_append_right _ hp
        · exact .inr h2
      · rintro (⟨p, hp, rfl⟩ | h2)
        · exact .inl ⟨p, hsub p hp, rfl⟩
        · exact .inr h2
  · rw [List.map_append, List.nodup_append]
    exact ⟨n1, n2.2, fun a ha b hb => n3 a ha b (List.mem_cons_of_mem _ hb)⟩
  · have hlong : ∃ pre2 post2, pre ++ i :: post = pre2 ++ k' :: post2 ∧ ∀ p ∈ pre2, p = i ∨ p ∈ pre' := by
      rcases List.append_eq_append_iff.1 heq with ⟨c, h1, h2⟩ | ⟨c, h1, h2⟩
      · exact ⟨pre ++ i :: c, post', by rw [h2]; simp, fun p hp => by
          rcases List.mem_append.1 hp with hp | hp
          · exact .inr (by rw [h1]; exact List.mem_append_left _ hp)
          · rcases List.mem_cons.1 hp with rfl | hp
            · exact .inl rfl
            · exact .inr (by rw [h1]; exact List.mem_append_right _ hp)⟩
      · cases c with
        | nil =>
          simp only [List.append_nil] at h1
          simp only [List.nil_append] at h2
          exact ⟨pre ++ [i], post', by rw [← h2]; simp, fun p hp => by
            rcases List.mem_append.1 hp with hp | hp
            · exact .inr (by rw [← h1]; exact hp)
            · simp at hp; exact .inl hp⟩
        | cons z c =>
          simp only [List.cons_append, List.cons.injEq] at h2
          obtain ⟨rfl, h2⟩ := h2
          exact ⟨pre', c ++ i :: post, by rw [h1]; simp, fun p hp => .inr hp⟩
    obtain ⟨pre2, post2, hl, hmem⟩ := hlong
    rcases h.order pre2 k' post2 hl o' ho' e he hb with h1 | ⟨p, hp, hpe⟩
    · exact .inl (getD_set_true h1)
    · rcases hmem p hp with hpi | hp'
      · left
        rw [← hpe, hpi]
        have : i.1 < listed.size := by rw [h.size]; exact hlt
        simp [Array.getD, this]
      · exact .inr ⟨p, hp', hpe⟩

theorem hasEdge_get {i j : Nat} (h : hasEdge arr.toList i j = true) {o : Oper} (ho : arr[i]? = some o) : ∃ e ∈ o.after, Region.binds .any e = true ∧ e.on = j := by
  unfold hasEdge at h
  rw [Array.getElem?_toList, ho] at h
  simp only [List.any_eq_true, Bool.and_eq_true] at h
  obtain ⟨e, he, hb, hj⟩ := h
  exact ⟨e, Array.mem_toList_iff.1 he, hb, Nat.eq_of_beq_eq_true hj⟩
theorem edgesBelow_get {i : Nat} (h : edgesBelow arr.toList i = true) {o : Oper} (ho : arr[i]? = some o) : ∀ e ∈ o.after, Region.binds .any e = true → e.on < i := by
  intro e he hb
  unfold edgesBelow at h
  rw [Array.getElem?_toList, ho] at h
  have := List.all_eq_true.1 h e (Array.mem_toList_iff.2 he)
  rw [hb] at this
  simp only [Bool.not_true, Bool.false_or] at this
  exact Nat.le_of_ble_eq_true this
/-- What is not listed waits. -/
theorem not_both {listed : Array Bool} {j : Nat} (h1 : listed.getD j true = false) (h2 : listed.getD j false = true) : False := by
  simp only [Array.getD] at h1 h2
  split at h1
  · rename_i h; rw [dif_pos h] at h2; rw [h1] at h2; cases h2
  · cases h1
theorem waits {listed : Array Bool} {i j : Nat} (hr : i ∈ Region.ready .any arr listed) (he : hasEdge arr.toList i j = true) : listed.getD j true ≠ false := by
  intro hf
  obtain ⟨_, o, ho, hall⟩ := mem_ready.1 hr
  obtain ⟨e, hm, hb, rfl⟩ := hasEdge_get he ho
  exact not_both hf (hall e hm hb)

structure TailK (arr : Array Oper) (k : Nat) : Prop where
  size : arr.size = k + 4
  first : ∀ j, j < k → hasEdge arr.toList k j = true
  e1 : hasEdge arr.toList (k + 1) k = true
  e2 : hasEdge arr.toList (k + 2) (k + 1) = true
  e3 : hasEdge arr.toList (k + 3) k = true
  below : ∀ j, k ≤ j → j < k + 4 → edgesBelow arr.toList j = true

theorem tail_waits (ht : TailK arr k) {listed : Array Bool} {i : Nat} (hr : i ∈ Region.ready .any arr listed) (hu : ∀ j, k ≤ j → j < k + 4 → listed.getD j true = false) {j0 : Nat} (hj0 : j0 < k) (hj : listed.getD j0 true = false) : i < k := by
  obtain ⟨_, o, ho, _⟩ := mem_ready.1 hr
  have hlt := (Array.getElem?_eq_some_iff.1 ho).1
  rw [ht.size] at hlt
  rcases Nat.lt_or_ge i k with h | h
  · exact h
  · exfalso
    rcases (show i = k ∨ i = k + 1 ∨ i = k + 2 ∨ i = k + 3 by omega) with rfl | rfl | rfl | rfl
    · exact waits hr (ht.first j0 hj0) hj
    · exact waits hr ht.e1 (hu k (by omega) (by omega))
    · exact waits hr ht.e2 (hu (k + 1) (by omega) (by omega))
    · exact waits hr ht.e3 (hu k (by omega) (by omega))

theorem any_soundK (cx : Ctx P Gl B0 C w0 g0) (ht : TailK arr k) {K : St → Option β} {Q : Exit → Act → World → Prop}
    (hK : ∀ listed st' a' w' g', K st' = some x → RS ro w0 g0 a' w' st' g' → ItemsK P cr arr k listed [] → wpAny P .any arr Q 4 listed a' w') :
    ∀ (n : Nat) (items : List (Nat × DIn)) (listed : Array Bool) (a : Act) (w : World) (st : St) (g : G), items.length = n → ItemsK P cr arr k listed items → evDs C ro (items.map (·.2)) st K = some x → RS ro w0 g0 a w st g →
      wpAny P .any arr Q (n + 4) listed a w := by
  intro n
  induction n with
  | zero =>
    intro items listed a w st g hf h he hs
    have : items = [] := List.eq_nil_of_length_eq_zero (by omega)
    subst this
    exact hK listed _ _ _ _ he hs h
  | succ n ih =>
    intro items listed a w st g hf h he hs
    rw [show n + 1 + 4 = (n + 4) + 1 from by omega]
    have hu : ∀ j, k ≤ j → j < k + 4 → listed.getD j true = false := fun j h1 h2 => (h.all j (by rw [ht.size]; exact h2)).2 (.inr h1)
    refine ⟨fun hr => ?_, fun j hj => ?_⟩
    · exfalso
      cases items with
      | nil => cases hf
      | cons i items =>
        obtain ⟨o, ho, _⟩ := h.tr i (by simp)
        have hlt : i.1 < arr.size := (Array.getElem?_eq_some_iff.1 ho).1
        have : i.1 ∈ Region.ready .any arr listed := by
          refine mem_ready.2 ⟨(h.all i.1 hlt).2 (.inl ⟨i, by simp, rfl⟩), o, ho, fun e he hb => ?_⟩
          rcases h.order [] i items rfl o ho e he hb with h1 | ⟨p, hp, _⟩
          · exact h1
          · simp at hp
        rw [hr] at this; cases this
    · obtain ⟨hun, o, ho, hall⟩ := mem_ready.1 hj
      have hjlt := (Array.getElem?_eq_some_iff.1 ho).1
      have hne : ∃ p, p ∈ items := by
        cases items with
        | nil => cases hf
        | cons p r => exact ⟨p, by simp⟩
      obtain ⟨p0, hp0⟩ := hne
      obtain ⟨o0, ho0, _⟩ := h.tr p0 hp0
      have hjk : j < k := tail_waits ht hj hu (h.lt p0 hp0) ((h.all p0.1 (Array.getElem?_eq_some_iff.1 ho0).1).2 (.inl ⟨p0, hp0, rfl⟩))
      have hi' := (h.all j hjlt).1 hun
      obtain ⟨i, hi, rfl⟩ : ∃ p ∈ items, p.1 = j := by
        rcases hi' with h1 | h1
        · exact h1
        · omega
      obtain ⟨pre, post, rfl⟩ := List.append_of_mem hi
      obtain ⟨o', ho', htr⟩ := h.tr i hi
      rw [ho] at ho'; cases ho'
      have hind : ∀ p ∈ pre, indep p.2 i.2 = true := by
        intro p hp
        rcases okPairs_get h.pairs rfl p hp with h1 | h1
        · exfalso
          have hl := anc_listed h.closed _ p.1 i.1 o ho hall h1
          obtain ⟨op, hop, _⟩ := h.tr p (List.mem_append_left _ hp)
          have hlt := (Array.getElem?_eq_some_iff.1 hop).1
          exact not_both ((h.all p.1 hlt).2 (.inl ⟨p, List.mem_append_left _ hp, rfl⟩)) hl
        · exact h1
      rw [List.map_append, List.map_cons] at he
      have he := move_first (fun p hp => by
        obtain ⟨q, hq, rfl⟩ := List.mem_map.1 hp
        exact hind q hq) he
      unfold evD at he
      obtain ⟨_, he⟩ := cond_some_none he
      unfold wpOp
      rw [ho]
      refine snd_in cx htr he hs _ Q (fun st' a' w' g' hk hr => ?_)
      exact ih (pre ++ post) _ a' w' st' g' (by simp at hf ⊢; omega) (h.del hj) (by rw [List.map_append]; exact hk) hr
end
end Go.Cx
