/- An element appended, then written: what the two leave. -/
import Derived.Test.YtjaeanhgcijfoaaGreatDoorCxAny
set_option linter.unusedVariables false
set_option linter.unusedSimpArgs false
namespace Go.Cx
open Go.RowKit

/-- Cells of new elements. -/
structure Row1 (w : World) (com : Nat → Nat) (sz m : Nat) (news : List Value) (ys : List (List PV)) : Prop where
  one : ∀ v ∈ news, v.oneCell' = true
  nlen : news.length = m * sz
  ylen : ys.length = m
  ysz : ∀ (i : Nat) (x : List PV), ys[i]? = some x → x.length = sz
  rep : ∀ (i j : Nat) (x : List PV) (p : PV), ys[i]? = some x → x[j]? = some p → ∃ v, news[i * sz + j]? = some v ∧ RepP w com v p

theorem setRow_setRow (w : World) (b : Nat) (cs : Array Value) (X Y : Array Value) (e : TypeId) (hb : w.heap[b]? = some (.cells cs e (0, 0))) : (w.setRow b X).setRow b Y = w.setRow b Y := by
  have hlt : b < w.heap.size := (Array.getElem?_eq_some_iff.1 hb).1
  unfold World.setRow
  congr 1
  apply Array.ext_getElem?
  intro k
  simp only [Array.getElem?_modify]
  by_cases h : b = k
  · subst h
    simp [hb]
  · simp only [if_neg h]
theorem setRow_comm (w : World) {b b' : Nat} (hne : b ≠ b') (X Y : Array Value) : (w.setRow b X).setRow b' Y = (w.setRow b' Y).setRow b X := by
  unfold World.setRow
  congr 1
  apply Array.ext_getElem?
  intro k
  simp only [Array.getElem?_modify]
  by_cases h : b = k
  · subst h
    simp [Ne.symm hne]
  · simp only [if_neg h]
theorem alloc_setRow (w : World) (X Y : Array Value) (e : TypeId) : (w.alloc (.cells X e)).setRow w.heap.size Y = w.alloc (.cells Y e) := by
  unfold World.setRow World.alloc
  congr 1
  apply Array.ext_getElem?
  intro k
  simp only [Array.getElem?_modify]
  by_cases h : w.heap.size = k
  · subst h
    simp
  · simp only [if_neg h]
    rcases Nat.lt_or_ge k w.heap.size with h' | h'
    · simp [Array.getElem?_push, h', Nat.ne_of_lt h']
    · rw [Array.getElem?_eq_none (by simp; omega), Array.getElem?_eq_none (by simp; omega)]
theorem resplice {α : Type} {c xs ys : List α} {k : Nat} (hl : xs.length = ys.length) (hk : k + xs.length ≤ c.length) :
    (c.take k ++ xs ++ c.drop (k + xs.length)).take k ++ ys ++ (c.take k ++ xs ++ c.drop (k + xs.length)).drop (k + ys.length) = c.take k ++ ys ++ c.drop (k + ys.length) := by
  have h1 : (c.take k).length = k := by rw [List.length_take]; omega
  have h2 : (c.take k ++ xs ++ c.drop (k + xs.length)).take k = c.take k := by rw [List.append_assoc, List.take_left' h1]
  have h3 : (c.take k ++ xs ++ c.drop (k + xs.length)).drop (k + ys.length) = c.drop (k + xs.length) := by
    rw [List.drop_left' (by rw [List.length_append, h1, hl])]
  rw [h2, h3, hl]

section
variable {β : Type} {P : Program} {ro : Nat} {w0 w : World} {g0 g1 : G} {a : Act} {st1 : St}

theorem app_fx {e : TypeId} {i : TypeInfo} {zv : Value} {N n cp m : Nat} {A : Option Addr} {xs ys : List (List PV)} {news : List Value} (hsz : 0 < i.size) (hby : 0 < i.bytes) (hi : P.info? e = some i) (hz0 : i.zero = some zv) (hzsize : zv.cells.size = i.size)
    (hrs : RS ro w0 g0 a w st1 g1) (hN : st1.env.length ≤ N) (hrep : RepP w g1.com (.slice A n cp) (.sl i.size xs)) (hown : OwnAt w g1 (0, N) (.slice A n cp) (.own i.size xs))
    (hsrc : Row1 w g1.com i.size m news ys) (hm0 : ¬ m = 0) (hbound : (n + m) * i.bytes ≤ 140737488355328) :
    ∃ (b c' : Nat) (e' : TypeId) (w1 : World) (g' : G), RS ro w0 g0 a w1 st1 g' ∧ RepA w1 g' (.slice (some ⟨b, 0, none⟩) (n + m) c') (.own i.size (xs ++ ys)) ∧ OwnAt w1 g' (0, N) (.slice (some ⟨b, 0, none⟩) (n + m) c') (.own i.size (xs ++ ys)) ∧
      xs.length = n ∧ n + m ≤ c' ∧ (∀ o, g1.obj o ≠ some b) ∧ g'.obj = g1.obj ∧ Keeps w g1.com w1 g'.com ∧
      ∀ (t ut ty : TypeId) (d : TypeDesc) (u : Value) (news0 : List Value) (ys0 : List (List PV)), P.underlying t = some (.slice e) → P.underlying ut = some d → (∀ k, d ≠ .int k) → Source P w g1.com i.size m u news0 ys0 →
        ∃ (w00 : World) (cs0 : Array Value), (Builtin.append_ #[t, ut] ty #[.slice A n cp, u]).run P w = .ok (.slice (some ⟨b, 0, none⟩) (n + m) c') w00 ∧ w00.heap[b]? = some (.cells cs0 e' (0, 0)) ∧ n * i.size + news.length ≤ cs0.size ∧
          (∀ b', b' < w.heap.size → b' ≠ b → w00.heap[b']? = w.heap[b']?) ∧
          w00.setRow b (cs0.toList.take (n * i.size) ++ news ++ cs0.toList.drop (n * i.size + news.length)).toArray = w1 := by
  obtain ⟨A', n', cp', hv, hcase⟩ := hown _ _ rfl
  cases hv
  obtain ⟨olds, hxn, holen, hoone, hosz, horep, hofirst, hocell⟩ := hrep.sl_own (P := P) hsz
  have hncp : n ≤ cp := by obtain ⟨A', c', h1, h2, _⟩ := hrep.sl_inv; injection h1 with _ e3 e4; omega
  by_cases hroom : n + m ≤ cp
  · rcases hcase with hc0 | ⟨b, cs, e', hA, hob, hcomb, hblk, hfit, _⟩
    · omega
    · subst hA
      have hsp : n * i.size + news.length ≤ cs.toList.length := by
        rw [hsrc.nlen, ← Nat.add_mul]
        exact Nat.le_trans (Nat.mul_le_mul_right _ hroom) (by simpa using hfit)
      have hone := oneBlock_setRow w b (cs.toList.take (n * i.size) ++ news ++ cs.toList.drop (n * i.size + news.length)).toArray
      have hheap := setRow_heap w b cs (cs.toList.take (n * i.size) ++ news ++ cs.toList.drop (n * i.size + news.length)).toArray e' (0, 0) hblk
      have hget : ∀ (j : Nat) (v : Value), cs[j]? = some v → j < n * i.size → (cs.toList.take (n * i.size) ++ news ++ cs.toList.drop (n * i.size + news.length)).toArray[j]? = some v := by
        intro j v hj hlt
        have h1 : (cs.toList.take (n * i.size)).length = n * i.size := by rw [List.length_take]; omega
        simp only [List.getElem?_toArray, List.append_assoc]
        rw [List.getElem?_append_left (by omega), List.getElem?_take, if_pos hlt]
        simpa using hj
      have hget2 : ∀ (j : Nat) (v : Value), news[j]? = some v → (cs.toList.take (n * i.size) ++ news ++ cs.toList.drop (n * i.size + news.length)).toArray[n * i.size + j]? = some v := by
        intro j v hj
        have h1 : (cs.toList.take (n * i.size)).length = n * i.size := by rw [List.length_take]; omega
        have h2 : j < news.length := (List.getElem?_eq_some_iff.1 hj).1
        simp only [List.getElem?_toArray, List.append_assoc]
        rw [List.getElem?_append_right (by omega), h1, List.getElem?_append_left (by omega), Nat.add_sub_cancel_left]
        exact hj
      have hcsj : ∀ (j : Nat) (v : Value), olds[j]? = some v → cs[j]? = some v := by
        intro j v hj
        have := hocell b rfl j v hj
        rwa [cell_of_heap hblk] at this
      have hrs2 := hrs.extend (w' := w.setRow b (cs.toList.take (n * i.size) ++ news ++ cs.toList.drop (n * i.size + news.length)).toArray) (k := N) (n := (n + m) * i.size) hN hob
        (by rw [hcomb]; exact Nat.mul_le_mul_right _ (by omega)) hone (fun j hj => by
          rw [hcomb] at hj
          rw [cell_of_heap hheap, cell_of_heap hblk]
          have hj2 : j < cs.size := by simp at hsp; omega
          rw [hget j cs[j] (by simp [hj2]) hj]
          simp [hj2])
      have hk2 : Keeps w g1.com (w.setRow b (cs.toList.take (n * i.size) ++ news ++ cs.toList.drop (n * i.size + news.length)).toArray) (g1.row b ((n + m) * i.size)).com := by
        refine ⟨fun b' => ?_, fun b' j hj => ?_⟩
        · by_cases hn : b' = b
          · subst hn; rw [hcomb]; show _ ≤ (if b' = b' then _ else _); rw [if_pos rfl]; exact Nat.mul_le_mul_right _ (by omega)
          · show _ ≤ (if b' = b then _ else _); rw [if_neg hn]; exact Nat.le_refl _
        · by_cases hn : b' = b
          · subst hn
            rw [hcomb] at hj
            rw [cell_of_heap hheap, cell_of_heap hblk]
            have hj2 : j < cs.size := by simp at hsp; omega
            rw [hget j cs[j] (by simp [hj2]) hj]
            simp [hj2]
          · simp only [World.cell?, hone.other b' hn]
      have hfin : RepP (w.setRow b (cs.toList.take (n * i.size) ++ news ++ cs.toList.drop (n * i.size + news.length)).toArray) (g1.row b ((n + m) * i.size)).com (.slice (some ⟨b, 0, none⟩) (n + m) cp) (.sl i.size (xs ++ ys)) := by
        refine rep_joined hheap hxn hsrc.ylen hosz hsrc.ysz (by show _ ≤ (if b = b then _ else _); rw [if_pos rfl]; exact Nat.le_refl _) hroom ?_ (fun k v hk hv => ?_) (fun i' j x p hx hp => ?_) (fun i' j x p hx hp => ?_)
        · simp only [List.size_toArray]; rw [splice_len hsp]; simp; exact Nat.le_trans (Nat.mul_le_mul_right _ hroom) hfit
        · by_cases hlt : k < n * i.size
          · have hk2 : k < olds.length := by rw [holen]; exact hlt
            have := hget k olds[k] (hcsj k _ (by simp [hk2])) hlt
            rw [this] at hv; cases hv
            exact hoone _ (List.getElem_mem _)
          · have hk2 : k - n * i.size < news.length := by rw [hsrc.nlen]; rw [Nat.add_mul] at hk; omega
            have := hget2 (k - n * i.size) news[k - n * i.size] (by simp [hk2])
            rw [show n * i.size + (k - n * i.size) = k from by omega] at this
            rw [this] at hv; cases hv
            exact hsrc.one _ (List.getElem_mem _)
        · obtain ⟨v, hv, hr⟩ := horep i' j x p hx hp
          have hi' : i' < n := by have := (List.getElem?_eq_some_iff.1 hx).1; omega
          have hj' : j < i.size := by have := (List.getElem?_eq_some_iff.1 hp).1; rw [hosz i' x hx] at this; exact this
          exact ⟨v, hget _ v (hcsj _ v hv) (idx_lt hi' hj'), hr.mono hk2⟩
        · obtain ⟨v, hv, hr⟩ := hsrc.rep i' j x p hx hp
          exact ⟨v, hget2 _ v hv, hr.mono hk2⟩
      have hfitsz : (cs.toList.take (n * i.size) ++ news ++ cs.toList.drop (n * i.size + news.length)).toArray.size = cs.size := by
        simp only [List.size_toArray]; rw [splice_len hsp]; simp
      have hoOK : OwnAt (w.setRow b (cs.toList.take (n * i.size) ++ news ++ cs.toList.drop (n * i.size + news.length)).toArray) (g1.row b ((n + m) * i.size)) (0, N) (.slice (some ⟨b, 0, none⟩) (n + m) cp) (.own i.size (xs ++ ys)) := by
        intro sz xs' h'
        cases h'
        exact ⟨_, _, _, rfl, .inr ⟨b, _, e', rfl, hob, by show (if b = b then _ else _) = _; rw [if_pos rfl], hheap, by rw [hfitsz]; exact hfit, hroom⟩⟩
      refine ⟨b, cp, e', _, _, hrs2, .own _ _ _ hfin, hoOK, hxn, hroom, fun o ho => hrs.wf.ownobj o b _ ho hob, rfl, hk2, ?_⟩
      intro t ut ty d u news0 ys0 ht hu hd hsrc0
      have hl0 : news0.length = news.length := by rw [hsrc0.nlen, hsrc.nlen]
      have hsp0 : n * i.size + news0.length ≤ cs.toList.length := by rw [hl0]; exact hsp
      have hrun := app_room (ty := ty) ht hu hd hi hsrc0 hblk hroom hfit
      refine ⟨_, _, hrun, setRow_heap w b cs _ e' (0, 0) hblk, ?_, fun b' _ hne => (oneBlock_setRow w b _).other b' hne, ?_⟩
      · simp only [List.size_toArray]; rw [splice_len hsp0]; exact hsp
      · rw [setRow_setRow w b cs _ _ e' hblk]
        simp only []
        rw [resplice hl0 hsp0]
  · -- in a new block
    have hgc : n + m ≤ grownCap w (n + m) cp e := grownCap_ge w _ _ _
    have hrsd := hrs.sameHeap (w' := w.drew) rfl rfl rfl rfl
    have hrs2 := hrsd.row (.cells (olds.toArray ++ news.toArray ++ Builtin.zeroCells zv.cells (grownCap w (n + m) cp e - (n + m))) e) ((n + m) * i.size)
    have hheap : (w.drew.alloc (.cells (olds.toArray ++ news.toArray ++ Builtin.zeroCells zv.cells (grownCap w (n + m) cp e - (n + m))) e)).heap[w.heap.size]? = some (.cells (olds.toArray ++ news.toArray ++ Builtin.zeroCells zv.cells (grownCap w (n + m) cp e - (n + m))) e (0, 0)) := heap_alloc_new w.drew _
    have hk2 := hrsd.wf.keeps_alloc (.cells (olds.toArray ++ news.toArray ++ Builtin.zeroCells zv.cells (grownCap w (n + m) cp e - (n + m))) e) (c' := (g1.row w.heap.size ((n + m) * i.size)).com) (fun b hb => if_neg hb)
    have hkd : Keeps w g1.com w.drew g1.com := ⟨fun _ => Nat.le_refl _, fun _ _ _ => rfl⟩
    have hget : ∀ (j : Nat) (v : Value), olds[j]? = some v → (olds.toArray ++ news.toArray ++ Builtin.zeroCells zv.cells (grownCap w (n + m) cp e - (n + m)))[j]? = some v := by
      intro j v hj
      have h1 : j < olds.length := (List.getElem?_eq_some_iff.1 hj).1
      rw [Array.append_assoc, Array.getElem?_append_left (by simpa using h1)]
      simpa using hj
    have hget2 : ∀ (j : Nat) (v : Value), news[j]? = some v → (olds.toArray ++ news.toArray ++ Builtin.zeroCells zv.cells (grownCap w (n + m) cp e - (n + m)))[n * i.size + j]? = some v := by
      intro j v hj
      have h1 : j < news.length := (List.getElem?_eq_some_iff.1 hj).1
      rw [Array.append_assoc, Array.getElem?_append_right (by simp [holen]), Array.getElem?_append_left (by simp [holen]; exact h1)]
      simp [holen]; exact hj
    have hsize := grownBlock_len (olds := olds) (news := news) (zc := zv.cells) (k := grownCap w (n + m) cp e - (n + m))
    have hcapfit : grownCap w (n + m) cp e * i.size ≤ (olds.toArray ++ news.toArray ++ Builtin.zeroCells zv.cells (grownCap w (n + m) cp e - (n + m))).size := by
      rw [hsize, holen, hsrc.nlen, hzsize, ← Nat.add_mul, ← Nat.add_mul]
      exact Nat.mul_le_mul_right _ (by omega)
    have hfin : RepP (w.drew.alloc (.cells (olds.toArray ++ news.toArray ++ Builtin.zeroCells zv.cells (grownCap w (n + m) cp e - (n + m))) e)) (g1.row w.heap.size ((n + m) * i.size)).com (.slice (some ⟨w.heap.size, 0, none⟩) (n + m) (grownCap w (n + m) cp e)) (.sl i.size (xs ++ ys)) := by
      refine rep_joined hheap hxn hsrc.ylen hosz hsrc.ysz (by show _ ≤ (if w.heap.size = w.heap.size then _ else _); rw [if_pos rfl]; exact Nat.le_refl _) hgc (Nat.le_trans (Nat.mul_le_mul_right _ hgc) hcapfit) (fun k v hk hv => ?_) (fun i' j x p hx hp => ?_) (fun i' j x p hx hp => ?_)
      · by_cases hlt : k < n * i.size
        · have hk2 : k < olds.length := by rw [holen]; exact hlt
          have := hget k olds[k] (by simp [hk2])
          rw [this] at hv; cases hv
          exact hoone _ (List.getElem_mem _)
        · have hk2 : k - n * i.size < news.length := by rw [hsrc.nlen]; rw [Nat.add_mul] at hk; omega
          have := hget2 (k - n * i.size) news[k - n * i.size] (by simp [hk2])
          rw [show n * i.size + (k - n * i.size) = k from by omega] at this
          rw [this] at hv; cases hv
          exact hsrc.one _ (List.getElem_mem _)
      · obtain ⟨v, hv, hr⟩ := horep i' j x p hx hp
        exact ⟨v, hget _ v hv, (hr.mono hkd).mono hk2⟩
      · obtain ⟨v, hv, hr⟩ := hsrc.rep i' j x p hx hp
        exact ⟨v, hget2 _ v hv, (hr.mono hkd).mono hk2⟩
    have hnone : (g1.row w.heap.size ((n + m) * i.size)).own w.heap.size = none := by
      cases hq : g1.own w.heap.size with
      | none => exact hq
      | some p => have := hrs.wf.ownlt _ _ hq; omega
    have hnobj : ∀ o, (g1.row w.heap.size ((n + m) * i.size)).obj o ≠ some w.heap.size := by
      intro o ho
      have := hrs.wf.block_lt ho
      omega
    have hk3 : Keeps w g1.com (w.drew.alloc (.cells (olds.toArray ++ news.toArray ++ Builtin.zeroCells zv.cells (grownCap w (n + m) cp e - (n + m))) e)) (g1.row w.heap.size ((n + m) * i.size)).com := hkd.trans hk2
    refine ⟨w.heap.size, _, e, _, _, hrs2.give (b := w.heap.size) hnone (by simp) hnobj hrs.fr.size (0, N), .own _ _ _ hfin, ?_, hxn, hgc, fun o ho => by have := hrs.wf.block_lt ho; omega, rfl, hk3, ?_⟩
    · intro sz xs' h'
      cases h'
      exact ⟨_, _, _, rfl, .inr ⟨w.heap.size, _, e, rfl, if_pos rfl, by show (if w.heap.size = w.heap.size then _ else _) = _; rw [if_pos rfl], hheap, hcapfit, hgc⟩⟩
    · intro t ut ty d u news0 ys0 ht hu hd hsrc0
      have hl0 : news0.length = news.length := by rw [hsrc0.nlen, hsrc.nlen]
      have hrun := app_grow (ty := ty) ht hu hd hi hz0 hsrc0 hofirst (by omega) hbound hby
      refine ⟨_, _, hrun, heap_alloc_new w.drew _, ?_, fun b' hb' hne => heap_alloc_old w.drew _ hb', ?_⟩
      · rw [grownBlock_len, holen, hl0]; omega
      · have e1 : ∀ nn : List Value, (olds.toArray ++ nn.toArray ++ Builtin.zeroCells zv.cells (grownCap w (n + m) cp e - (n + m))).toList = olds ++ nn ++ (Builtin.zeroCells zv.cells (grownCap w (n + m) cp e - (n + m))).toList := fun nn => by simp
        rw [show w.heap.size = w.drew.heap.size from rfl, alloc_setRow, e1]
        congr 2
        apply Array.ext'
        rw [e1]
        simp only [List.append_assoc]
        rw [List.take_left' holen, ← List.append_assoc olds news0, List.drop_left' (by rw [List.length_append, holen, hl0])]
end
end Go.Cx
