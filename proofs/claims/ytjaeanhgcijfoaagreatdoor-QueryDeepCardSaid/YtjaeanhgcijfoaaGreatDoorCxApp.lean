/- append. -/
import Derived.Test.YtjaeanhgcijfoaaGreatDoorCxOps9
import Derived.Laws.AppendOwn
set_option linter.unusedSimpArgs false
set_option linter.unusedVariables false
namespace Go.Cx
open Go.RowKit

/-- A row of elements, flat. -/
def flat (n sz : Nat) (val : Nat → Nat → Value) : List Value := (List.range (n * sz)).map fun k => val (k / sz) (k % sz)
theorem flat_length (n sz : Nat) (val : Nat → Nat → Value) : (flat n sz val).length = n * sz := by simp [flat]
theorem idx_lt {i j n sz : Nat} (hi : i < n) (hj : j < sz) : i * sz + j < n * sz := by
  have h1 : (i + 1) * sz ≤ n * sz := Nat.mul_le_mul_right _ hi
  have h2 : (i + 1) * sz = i * sz + sz := by rw [Nat.add_mul, Nat.one_mul]
  omega
theorem flat_get {i j n sz : Nat} {val : Nat → Nat → Value} (hi : i < n) (hj : j < sz) : (flat n sz val)[i * sz + j]? = some (val i j) := by
  have h := idx_lt hi hj
  have h1 : (i * sz + j) / sz = i := by
    rw [Nat.add_comm, Nat.mul_comm, Nat.add_mul_div_left _ _ (by omega), Nat.div_eq_of_lt hj, Nat.zero_add]
  have h2 : (i * sz + j) % sz = j := by
    rw [Nat.add_comm, Nat.mul_comm, Nat.add_mul_mod_self_left, Nat.mod_eq_of_lt hj]
  simp only [flat, List.getElem?_map, List.getElem?_range h, Option.map_some, h1, h2]
theorem flat_get' {k n sz : Nat} {val : Nat → Nat → Value} {v : Value} (h : (flat n sz val)[k]? = some v) : k < n * sz ∧ v = val (k / sz) (k % sz) := by
  have hk : k < n * sz := by have := (List.getElem?_eq_some_iff.1 h).1; rwa [flat_length] at this
  simp only [flat, List.getElem?_map, List.getElem?_range hk, Option.map_some] at h
  exact ⟨hk, (Option.some.inj h).symm⟩

/-- What is appended. -/
structure Source (P : Program) (w : World) (com : Nat → Nat) (sz m : Nat) (u : Value) (news : List Value) (ys : List (List PV)) : Prop where
  len : ∀ w', (Builtin.lenOf u).run P w' = .ok m w'
  first : ∀ w' : World, (∀ ad, w'.cell? ad = w.cell? ad) → (Builtin.firstCells sz m u).run P w' = .ok news.toArray w'
  one : ∀ v ∈ news, v.oneCell' = true
  nlen : news.length = m * sz
  ylen : ys.length = m
  ysz : ∀ (i : Nat) (x : List PV), ys[i]? = some x → x.length = sz
  rep : ∀ (i j : Nat) (x : List PV) (p : PV), ys[i]? = some x → x[j]? = some p → ∃ v, news[i * sz + j]? = some v ∧ RepP w com v p

section
variable {β : Type} {P : Program} {ro : Nat} {w0 w : World} {g0 g : G} {o : Oper} {a : Act} {st : St} {K : St → AV → Option β} {x : β} {C : Caller}

theorem Source.of_sl {sz : Nat} {com : Nat → Nat} {u : Value} {ys : List (List PV)} (h : RepP w com u (.sl sz ys)) (hsz : 0 < sz) : ∃ m news, m = ys.length ∧ Source P w com sz m u news ys := by
  obtain ⟨A, c, rfl, hc, hr⟩ := h.sl_inv
  by_cases hne : ys = []
  · subst hne
    refine ⟨0, [], rfl, fun w' => rfl, fun w' _ => ?_, fun v hv => by simp at hv, by simp, rfl, fun i x hx => by simp at hx, fun i j x p hx => by simp at hx⟩
    cases A <;> simp [Builtin.firstCells, loadCells, loadCellsFrom]
  · obtain ⟨b, off, rfl, hcom, hall, val, hcell, hone, hrep⟩ := hr hne
    refine ⟨ys.length, flat ys.length sz val, rfl, fun w' => rfl, fun w' hw => ?_, fun v hv => ?_, flat_length _ _ _, rfl, hall, fun i j x p hx hp => ?_⟩
    · refine run_firstCells_some (P := P) w' sz ys.length ⟨b, off, none⟩ _ _ _ (flat_length _ _ _) (fun k v hk => ?_)
      obtain ⟨hk2, rfl⟩ := flat_get' hk
      rw [hw, Addr.add_lit]
      have h1 : k / sz < ys.length := Nat.div_lt_of_lt_mul (by rw [Nat.mul_comm]; exact hk2)
      have h2 := hcell (k / sz) (k % sz) h1 (Nat.mod_lt _ hsz)
      have h3 : k / sz * sz + k % sz = k := by rw [Nat.mul_comm]; exact Nat.div_add_mod k sz
      rw [show off + k = off + k / sz * sz + k % sz from by omega]
      exact h2
    · obtain ⟨k, hk, rfl⟩ := List.getElem_of_mem hv
      have hk' : k < ys.length * sz := by rwa [flat_length] at hk
      obtain ⟨_, e⟩ := flat_get' (List.getElem?_eq_getElem hk)
      rw [e]
      exact hone _ _ (Nat.div_lt_of_lt_mul (by rw [Nat.mul_comm]; exact hk')) (Nat.mod_lt _ hsz)
    · have hi : i < ys.length := (List.getElem?_eq_some_iff.1 hx).1
      have hj : j < sz := by have := (List.getElem?_eq_some_iff.1 hp).1; rw [hall i x hx] at this; exact this
      exact ⟨_, flat_get hi hj, hrep i j x p hx hp⟩

theorem Source.of_str {com : Nat → Nat} (s : ByteArray) : Source P w com 1 s.size (.string s) (s.data.toList.map fun b => Value.int .u8 (b.toNat : Int)) (elemsOf s) := by
  refine ⟨fun w' => rfl, fun w' _ => ?_, fun v hv => ?_, by rw [List.length_map, Nat.mul_one]; rfl, by rw [elemsOf, List.length_map]; rfl, fun i x hx => ?_, fun i j x p hx hp => ?_⟩
  · simp only [Builtin.firstCells, Sem.run_pure]
    congr 1
    have : s.extract 0 s.size = s := by simp
    rw [this]
    apply Array.ext'
    simp
  · obtain ⟨b, _, rfl⟩ := List.mem_map.1 hv; rfl
  · simp only [elemsOf, List.getElem?_map] at hx
    obtain ⟨b, _, rfl⟩ := Option.map_eq_some_iff.1 hx
    rfl
  · simp only [elemsOf, List.getElem?_map] at hx
    obtain ⟨b, hb, rfl⟩ := Option.map_eq_some_iff.1 hx
    cases j with
    | zero =>
      simp at hp; subst hp
      exact ⟨_, by simp only [Nat.mul_one, Nat.add_zero, List.getElem?_map, hb, Option.map_some], .int _ _⟩
    | succ j => simp at hp

section
variable {t ut ty e : TypeId} {i : TypeInfo} {z : Value} {d : TypeDesc}

theorem app_room (ht : P.underlying t = some (.slice e)) (hu : P.underlying ut = some d) (hd : ∀ k, d ≠ .int k) (hi : P.info? e = some i) {com : Nat → Nat} {m : Nat} {u : Value} {news : List Value} {ys : List (List PV)}
    (hsrc : Source P w com i.size m u news ys) {b n c : Nat} {cs : Array Value} {e' : TypeId} (hb : w.heap[b]? = some (.cells cs e' (0, 0))) (hroom : n + m ≤ c) (hfit : c * i.size ≤ cs.size) :
    (Builtin.append_ #[t, ut] ty #[.slice (some ⟨b, 0, none⟩) n c, u]).run P w =
      .ok (.slice (some ⟨b, 0, none⟩) (n + m) c) (w.setRow b (cs.toList.take (n * i.size) ++ news ++ cs.toList.drop (n * i.size + news.length)).toArray) := by
  have hf := hsrc.first w (fun _ => rfl)
  have hsz : n * i.size + news.length ≤ cs.size := by
    rw [hsrc.nlen, ← Nat.add_mul]
    exact Nat.le_trans (Nat.mul_le_mul_right _ hroom) hfit
  have hst := run_storeCells_at P b (n * i.size) e' news 0 cs w hb (by simpa using hsz) hsrc.one
  simp only [Nat.add_zero] at hst
  simp [Builtin.append_, run_underlying ht, run_underlying hu, sizeOf, typeInfo, hi, hsrc.len, hroom, hf, Addr.add_lit, hst]

theorem app_same (ht : P.underlying t = some (.slice e)) (hu : P.underlying ut = some d) (hd : ∀ k, d ≠ .int k) (hi : P.info? e = some i) {com : Nat → Nat} {u : Value} {news : List Value} {ys : List (List PV)}
    (hsrc : Source P w com i.size 0 u news ys) {A : Option Addr} {n c : Nat} (hc : n ≤ c) :
    (Builtin.append_ #[t, ut] ty #[.slice A n c, u]).run P w = .ok (.slice A n c) w := by
  have hf := hsrc.first w (fun _ => rfl)
  have hn : news = [] := List.eq_nil_of_length_eq_zero (by simpa using hsrc.nlen)
  subst hn
  cases A <;> simp [Builtin.append_, run_underlying ht, run_underlying hu, sizeOf, typeInfo, hi, hsrc.len, hc, hf, storeCells]

theorem app_grow (ht : P.underlying t = some (.slice e)) (hu : P.underlying ut = some d) (hd : ∀ k, d ≠ .int k) (hi : P.info? e = some i) (hz : i.zero = some z) {com : Nat → Nat} {m : Nat} {u : Value} {news : List Value} {ys : List (List PV)}
    (hsrc : Source P w com i.size m u news ys) {A : Option Addr} {n c : Nat} {olds : List Value} (hold : ∀ w' : World, (∀ ad, w'.cell? ad = w.cell? ad) → (Builtin.firstCells i.size n (.slice A n c)).run P w' = .ok olds.toArray w')
    (hg : c < n + m) (hby : (n + m) * i.bytes ≤ 140737488355328) (hb0 : 0 < i.bytes) :
    (Builtin.append_ #[t, ut] ty #[.slice A n c, u]).run P w =
      .ok (.slice (some ⟨w.heap.size, 0, none⟩) (n + m) (grownCap w (n + m) c e))
        (w.drew.alloc (.cells (olds.toArray ++ news.toArray ++ Builtin.zeroCells z.cells (grownCap w (n + m) c e - (n + m))) e)) := by
  have hn : ¬ (n + m ≤ c) := by omega
  have hle : n + m ≤ (n + m) * i.bytes := Nat.le_mul_of_pos_right _ hb0
  have h63' : ¬ (9223372036854775807 < ((n : Int) + (m : Int))) := by omega
  have hfit := growslice_fits (bytes := i.bytes) hg hby
  have h48' : ¬ (281474976710656 < Builtin.nextslicecap (n + m) c * i.bytes) := by omega
  have hf := hsrc.first w.drew (fun _ => rfl)
  have hfo := hold w.drew (fun _ => rfl)
  simp [Builtin.append_, run_underlying ht, run_underlying hu, sizeOf, typeInfo, zeroValue, hi, hz, hsrc.len, hn, h63', h48', Question.forced, hf, hfo, newRow, grownCap]
  congr 2
  apply Array.ext'
  simp [List.append_assoc]
end

theorem grownBlock_len {olds news : List Value} {zc : Array Value} {k : Nat} : (olds.toArray ++ news.toArray ++ Builtin.zeroCells zc k).size = olds.length + news.length + k * zc.size := by
  simp [Builtin.zeroCells]

/-- The elements of a row that was laid end to end. -/
theorem rep_joined {com : Nat → Nat} {w' : World} {b n m c sz : Nat} {xs ys : List (List PV)} {cs : Array Value} {e : TypeId} {fz : Nat × Nat} (hb : w'.heap[b]? = some (.cells cs e fz))
    (hx : xs.length = n) (hy : ys.length = m) (hxs : ∀ (i : Nat) (x : List PV), xs[i]? = some x → x.length = sz) (hys : ∀ (i : Nat) (x : List PV), ys[i]? = some x → x.length = sz)
    (hcom : (n + m) * sz ≤ com b) (hc : n + m ≤ c) (hsize : (n + m) * sz ≤ cs.size)
    (hone : ∀ k v, k < (n + m) * sz → cs[k]? = some v → v.oneCell' = true)
    (h1 : ∀ (i j : Nat) (x : List PV) (p : PV), xs[i]? = some x → x[j]? = some p → ∃ v, cs[i * sz + j]? = some v ∧ RepP w' com v p)
    (h2 : ∀ (i j : Nat) (x : List PV) (p : PV), ys[i]? = some x → x[j]? = some p → ∃ v, cs[n * sz + (i * sz + j)]? = some v ∧ RepP w' com v p) :
    RepP w' com (.slice (some ⟨b, 0, none⟩) (n + m) c) (.sl sz (xs ++ ys)) := by
  refine .sl b 0 (n + m) c sz _ (fun i j => cs.getD (i * sz + j) undef) (by simp [hx, hy]) hc (by omega) (fun i x hix => ?_) (fun i j hi hj => ?_) (fun i j hi hj => ?_) (fun i j x p hix hjp => ?_)
  · by_cases hlt : i < xs.length
    · rw [List.getElem?_append_left hlt] at hix; exact hxs i x hix
    · rw [List.getElem?_append_right (by omega)] at hix; exact hys _ x hix
  · have := idx_lt hi hj
    rw [cell_of_heap hb, Nat.zero_add]
    have hlt : i * sz + j < cs.size := by omega
    simp [Array.getD, hlt]
  · have := idx_lt hi hj
    have hlt : i * sz + j < cs.size := by omega
    exact hone (i * sz + j) _ this (by simp [Array.getD, hlt])
  · have key : ∃ v, cs[i * sz + j]? = some v ∧ RepP w' com v p := by
      by_cases hlt : i < xs.length
      · rw [List.getElem?_append_left hlt] at hix; exact h1 i j x p hix hjp
      · rw [List.getElem?_append_right (by omega)] at hix
        obtain ⟨v, hv, hr⟩ := h2 _ j x p hix hjp
        refine ⟨v, ?_, hr⟩
        have e1 : n * sz + (i - n) * sz = i * sz := by rw [← Nat.add_mul]; congr 1; omega
        rw [hx] at hv
        rw [show i * sz + j = n * sz + ((i - n) * sz + j) from by omega]
        exact hv
    obtain ⟨v, hv, hr⟩ := key
    have : cs.getD (i * sz + j) undef = v := by simp [Array.getD_eq_getD_getElem?, hv]
    rw [this]
    exact hr

theorem RepP.sl_own {com : Nat → Nat} {A : Option Addr} {n c sz : Nat} {xs : List (List PV)} (h : RepP w com (.slice A n c) (.sl sz xs)) (hsz : 0 < sz) :
    ∃ olds : List Value, xs.length = n ∧ olds.length = n * sz ∧ (∀ v ∈ olds, v.oneCell' = true) ∧ (∀ (i : Nat) (x : List PV), xs[i]? = some x → x.length = sz) ∧
      (∀ (i j : Nat) (x : List PV) (p : PV), xs[i]? = some x → x[j]? = some p → ∃ v, olds[i * sz + j]? = some v ∧ RepP w com v p) ∧
      (∀ w' : World, (∀ ad, w'.cell? ad = w.cell? ad) → (Builtin.firstCells sz n (.slice A n c)).run P w' = .ok olds.toArray w') ∧
      (∀ b, A = some ⟨b, 0, none⟩ → ∀ k v, olds[k]? = some v → w.cell? ⟨b, k, none⟩ = some v) := by
  obtain ⟨m, news, hm, hsrc⟩ := Source.of_sl (P := P) (w := w) h hsz
  have hn : xs.length = n := by obtain ⟨A', c', hv, _⟩ := h.sl_inv; injection hv with _ e _; exact e.symm
  have hmn : m = n := hm.trans hn
  subst hmn
  refine ⟨news, hn, hsrc.nlen, hsrc.one, hsrc.ysz, hsrc.rep, hsrc.first, fun b hb k v hk => ?_⟩
  subst hb
  have h1 := hsrc.first w (fun _ => rfl)
  by_cases h0 : m = 0
  · subst h0
    have : news = [] := List.eq_nil_of_length_eq_zero (by simpa using hsrc.nlen)
    subst this
    simp at hk
  · obtain ⟨A', c', hv, _, hr⟩ := h.sl_inv
    injection hv with e1 e2 e3
    obtain ⟨b', off, e4, hcom, hall, val, hcell, _, _⟩ := hr (by intro h2; rw [h2] at hn; simp at hn; omega)
    rw [e4] at e1
    cases e1
    have hfl := run_firstCells_some (P := P) w sz m ⟨b, 0, none⟩ m c (flat m sz val) (flat_length _ _ _) (fun k v hk => by
      obtain ⟨hk2, rfl⟩ := flat_get' hk
      rw [Addr.add_lit, Nat.zero_add]
      have h1 : k / sz < m := Nat.div_lt_of_lt_mul (by rw [Nat.mul_comm]; exact hk2)
      have h2 := hcell (k / sz) (k % sz) (by omega) (Nat.mod_lt _ hsz)
      have h3 : k / sz * sz + k % sz = k := by rw [Nat.mul_comm]; exact Nat.div_add_mod k sz
      rw [Nat.zero_add, h3] at h2
      exact h2)
    rw [hfl] at h1
    have h2 : (flat m sz val).toArray = news.toArray := by injection h1
    have h3 : flat m sz val = news := by simpa using congrArg Array.toList h2
    rw [← h3] at hk
    obtain ⟨hk2, rfl⟩ := flat_get' hk
    have h1 : k / sz < m := Nat.div_lt_of_lt_mul (by rw [Nat.mul_comm]; exact hk2)
    have h2 := hcell (k / sz) (k % sz) (by omega) (Nat.mod_lt _ hsz)
    have h3 : k / sz * sz + k % sz = k := by rw [Nat.mul_comm]; exact Nat.div_add_mod k sz
    rw [Nat.zero_add, h3] at h2
    exact h2
end
end Go.Cx
