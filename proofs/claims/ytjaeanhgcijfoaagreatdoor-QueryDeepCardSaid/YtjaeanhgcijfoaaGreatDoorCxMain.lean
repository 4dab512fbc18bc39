/- Every operation; regions in the text's order; code; functions. -/
import Derived.Test.YtjaeanhgcijfoaaGreatDoorCxEqa
set_option linter.unusedSimpArgs false
set_option linter.unusedVariables false
namespace Go.Cx
open Go.RowKit

section
variable {β : Type} {P : Program} {cr : Option FuncId → Option CR} {ops : List Oper} {Gl : World → Prop} {B0 ro : Nat} {w0 w w' : World} {g0 g g' : G} {o : Oper} {a : Act} {st : St} {ao : AOp} {K : St → AV → Option β} {x : β} {C : Caller} {objs : List AObj}

theorem lay_length {t : TypeId} {l : List CT} (h : lay P t = some l) : l.length = P.cellsOf t := by
  unfold lay at h
  split at h
  · split at h
    · cases h; assumption
    · cases h
  · cases h

theorem underlying_of_isAgg {t : TypeId} (h : isAggB P t = true) : P.underlying t ≠ none := by
  unfold isAggB at h
  intro hn
  rw [hn] at h; cases h

theorem snd_op (hst : ∀ w w' : World, Gl w → (∀ b, b < B0 → w'.heap[b]? = w.heap[b]?) → Gl w') (hC : SoundC P Gl B0 C) (htr : trOp P cr ops o = some ao) (he : evOp C ro ao st K = some x) (hs : RS ro w0 g0 a w st g)
    (hlow : Low B0 w0 g0) (hgl : Gl w0) : Sound1 P ro w0 g0 o a w K x := by
  unfold trOp at htr
  split at htr
  case h_1 y hop =>
    obtain ⟨ay, hy, rfl⟩ := Option.map_eq_some_iff.1 htr
    exact (val_mv (by simp only [execOp, hop]) hy he hs).sound
  case h_2 y hop =>
    obtain ⟨ay, hy, rfl⟩ := Option.map_eq_some_iff.1 htr
    exact (val_mv (by simp only [execOp, hop]) hy he hs).sound
  case h_3 c y z hop =>
    split at htr
    · rename_i ac ay az hc hy hz; cases htr; exact (val_pick hop hc hy hz he hs).sound
    · cases htr
  case h_4 e hop =>
    obtain ⟨zs, hz, rfl⟩ := Option.map_eq_some_iff.1 htr
    exact snd_alloc hop hz he hs
  case h_5 e y hop =>
    split at htr
    · rename_i ay hy
      split at htr
      · cases htr; exact snd_box hop hy he hs
      · split at htr
        · cases htr; exact snd_box hop hy he hs
        · cases htr
    · cases htr
  case h_6 t ps hop =>
    split at htr
    · rename_i fs zs h1 h2
      split at htr
      · rename_i h3
        obtain ⟨ps', hp, rfl⟩ := Option.map_eq_some_iff.1 htr
        exact snd_build hop h1 h2 h3 hp he hs
      · cases htr
    · cases htr
  case h_7 t n ps hop =>
    split at htr
    · rename_i e h1
      split at htr
      · rename_i zs l hz hl
        split at htr
        · rename_i hc; cases htr; exact snd_bslice hop h1 hz hc.1 hc.2 hl he hs
        · cases htr
      · cases htr
    · cases htr
  case h_8 t y hop =>
    split at htr
    · rename_i ay hy
      split at htr
      · cases htr
      · rename_i hu
        have hu : P.underlying t ≠ none := by intro h; rw [h] at hu; exact hu rfl
        split at htr
        · rename_i hagg
          obtain ⟨l, hl, rfl⟩ := Option.map_eq_some_iff.1 htr
          exact snd_load hop hu (.inl ⟨l, rfl, hagg, lay_length hl⟩) hy he hs
        · rename_i hagg
          cases htr
          exact snd_load hop hu (.inr ⟨rfl, by simpa using hagg⟩) hy he hs
    · cases htr
  case h_9 t y z hop =>
    split at htr
    · rename_i ay az hy hz
      split at htr
      · cases htr
      · rename_i hi
        have hi : ∃ i, P.info? t = some i := by
          cases h : P.info? t with
          | none => rw [h] at hi; exact absurd rfl hi
          | some i => exact ⟨i, rfl⟩
        split at htr
        · cases htr
          intro N Q hN
          exact snd_store hop hi (.inl rfl) hy hz he hs N Q (fun st' w' g' h1 h2 => hN st' .any undef w' g' h1 h2 (.any _) (fun k _ => notOwn (by simp)))
        · split at htr
          · rename_i h1
            cases htr
            intro N Q hN
            exact snd_store hop hi (.inr ⟨rfl, h1⟩) hy hz he hs N Q (fun st' w' g' h1 h2 => hN st' .any undef w' g' h1 h2 (.any _) (fun k _ => notOwn (by simp)))
          · cases htr
    · cases htr
  case h_10 y hop =>
    obtain ⟨ay, hy, rfl⟩ := Option.map_eq_some_iff.1 htr
    exact (val_nilck hop hy he hs).sound
  case h_11 op t y z t' hop =>
    split at htr
    · rename_i ay az hy hz
      split at htr
      · rename_i l hl
        split at htr
        · cases htr; exact (val_eqa hop hl (.inl ⟨rfl, rfl⟩) hy hz he hs).sound
        · cases htr; exact (val_eqa hop hl (.inr ⟨rfl, rfl⟩) hy hz he hs).sound
        · cases htr
      · split at htr
        · cases htr; exact (val_bin hop hy hz he hs).sound
        · cases htr; exact (val_bin hop hy hz he hs).sound
        · rename_i h1
          split at htr
          · cases htr; exact (val_eqb hop h1 (.inl ⟨rfl, rfl⟩) hy hz he hs).sound
          · cases htr; exact (val_eqb hop h1 (.inr ⟨rfl, rfl⟩) hy hz he hs).sound
          · cases htr
        · rename_i e h1
          split at htr
          · cases htr; exact (val_eqp hop h1 (.inl ⟨rfl, rfl⟩) hy hz he hs).sound
          · cases htr; exact (val_eqp hop h1 (.inr ⟨rfl, rfl⟩) hy hz he hs).sound
          · cases htr
        · cases htr
    · cases htr
  case h_12 t y hop =>
    obtain ⟨ay, hy, rfl⟩ := Option.map_eq_some_iff.1 htr
    exact (val_not hop hy he hs).sound
  case h_13 t y hop =>
    obtain ⟨ay, hy, rfl⟩ := Option.map_eq_some_iff.1 htr
    exact (val_neg hop hy he hs).sound
  case h_14 s t y hop =>
    split at htr
    · rename_i k0 k ay h1 h2 hy; cases htr; exact (val_conv hop h1 h2 hy he hs).sound
    · rename_i ay h1 h2 hy; cases htr; exact (val_cvs hop h1 h2 hy he hs).sound
    · rename_i e ay h1 h2 hy
      split at htr
      · rename_i h3; cases htr; exact (val_bstr hop h1 h3 h2 hy he hs).sound
      · cases htr
    · cases htr
  case h_15 t y lo hi hop =>
    split at htr
    · rename_i ay lo' hi' h1 hy hlo hhi; cases htr; exact (val_slstr hop h1 hy hlo hhi he hs).sound
    · rename_i e ay lo' hi' h1 hy hlo hhi
      split at htr
      · cases htr
      · rename_i hi0; cases htr; exact (val_slsl hop h1 hy hlo hhi he hs (by cases h : P.info? e <;> simp_all)).sound
    · cases htr
  case h_16 t y f hop =>
    split at htr
    · rename_i fs ay h1 hy
      split at htr
      · rename_i fd hf
        split at htr
        · cases htr
        · rename_i hz; cases htr; exact (val_faddr hop h1 hf hz hy he hs).sound
      · cases htr
    · cases htr
  case h_17 t y f hop =>
    split at htr
    · rename_i fs ay h1 hy
      split at htr
      · rename_i fd hf
        split at htr
        · cases htr
        · rename_i hu
          have hu : P.underlying fd.type ≠ none := by intro h; rw [h] at hu; exact hu rfl
          split at htr
          · rename_i ha; cases htr; exact (val_fld hop h1 hf (.inl ⟨rfl, ha⟩) hu hy he hs).sound
          · rename_i ha; cases htr; exact (val_fld hop h1 hf (.inr ⟨rfl, by simpa using ha⟩) hu hy he hs).sound
      · cases htr
    · cases htr
  case h_18 t y z hop =>
    split at htr
    · rename_i e ay az h1 hy hz
      split at htr
      · cases htr
      · rename_i hi0; cases htr; exact (val_iaddr hop h1 (by cases h : P.info? e <;> simp_all) hy hz he hs).sound
    · cases htr
  case h_19 t y z hop =>
    split at htr
    · rename_i ay az h1 hy hz; cases htr; exact (val_idxs hop h1 hy hz he hs).sound
    · cases htr
  case h_20 y i hop =>
    obtain ⟨ay, hy, rfl⟩ := Option.map_eq_some_iff.1 htr
    exact (val_extract hop hy he hs).sound
  case h_21 t y hop =>
    split at htr
    · rename_i ay h1 hy; cases htr; exact snd_range hop h1 hy he hs
    · cases htr
  case h_22 y hop =>
    obtain ⟨ay, hy, rfl⟩ := Option.map_eq_some_iff.1 htr
    exact snd_next hop hy he hs
  case h_23 f ys zs hop =>
    split at htr
    · rename_i as bs hy hz; cases htr; exact (val_mkfn hop hy hz he hs).sound
    · cases htr
  case h_24 t y hop =>
    split at htr
    · cases htr
    · rename_i d ay hd h1 hy
      cases htr
      exact (val_mkif hop h1 (fun ms hm => hd ms hm) hy he hs).sound
    · cases htr
  case h_25 c hop =>
    split at htr
    · rename_i hcb
      split at htr
      · rename_i y t hca hct
        split at htr
        · rename_i ay h1 hy; cases htr; exact (val_lens hop hcb hca hct h1 hy he hs).sound
        · rename_i e ay h1 hy; cases htr; exact (val_len hop hcb hca hct h1 hy he hs).sound
        · cases htr
      · cases htr
    · rename_i hcb
      split at htr
      · rename_i y z hca
        split at htr
        · rename_i ay az hy hz; cases htr; exact (val_mm hop (.inl ⟨hcb, rfl⟩) hca hy hz he hs).sound
        · cases htr
      · cases htr
    · rename_i hcb
      split at htr
      · rename_i y z hca
        split at htr
        · rename_i ay az hy hz; cases htr; exact (val_mm hop (.inr ⟨hcb, rfl⟩) hca hy hz he hs).sound
        · cases htr
      · cases htr
    · rename_i hcb
      split at htr
      · rename_i y z t u hca hct
        split at htr
        · rename_i e ay az h1 hy hz
          split at htr
          · rename_i hc
            obtain ⟨hc1, hc2, hc3⟩ := hc
            obtain ⟨zs, hzs⟩ := Option.isSome_iff_exists.1 hc3
            split at htr
            · rename_i e' hu; cases htr; exact snd_append hop hcb hca hct h1 hu (by simp) hc1 hc2 hzs hy hz he hs
            · rename_i hu; cases htr; exact snd_append hop hcb hca hct h1 hu (by simp) hc1 hc2 hzs hy hz he hs
            · cases htr
          · cases htr
        · cases htr
      · cases htr
    · rename_i f hcf
      split at htr
      · rename_i af as hf has
        split at htr
        · cases htr; exact snd_call hst hC hop hcf hf has he hs hlow hgl
        · obtain ⟨vt, _, rfl⟩ := Option.map_eq_some_iff.1 htr
          exact snd_call hst hC hop hcf hf has he hs hlow hgl
      · cases htr
    · cases htr
  case h_26 => cases htr
end
end Go.Cx
