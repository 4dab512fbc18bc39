/- Contracts of the lexer's functions. -/
import Derived.Test.YtjaeanhgcijfoaaGreatDoorLxEq
import Derived.Test.YtjaeanhgcijfoaaGreatDoorZI
set_option linter.unusedSimpArgs false
set_option linter.unusedVariables false
set_option maxRecDepth 100000
namespace Go.W
open Go Go.Cx Go.RowKit

noncomputable abbrev PP : Program := Go.Proofs.Tryz.prog
def GL : World → Prop := fun _ => True
theorem hst0 : ∀ w w' : World, GL w → (∀ b, b < 0 → w'.heap[b]? = w.heap[b]?) → GL w' := fun _ _ _ _ => trivial
abbrev TOK (f : FuncId) (M : List AV → List AObj → Ans) : Prop := ToldOK PP GL 0 f M

theorem ok_letter : TOK f_token_letter T_letter := by
  intro args objs r objs' h
  unfold T_letter at h
  split at h
  · rename_i c
    obtain ⟨_, rfl, rfl⟩ := val_get h
    refine FnM_of_run hst0 TabOK.zero (k := 1) (N := 0) tr_token_letter ((run_letter 0 c).trans ?_)
    unfold letterS; simp only [ge_iff_le]
    cases decide (97 ≤ c) <;> cases decide (c ≤ 122) <;> cases decide (65 ≤ c) <;> cases decide (c ≤ 90) <;> cases (c == 95) <;> rfl
  · cases h
theorem ok_digit : TOK f_token_digit T_digit := by
  intro args objs r objs' h
  unfold T_digit at h
  split at h
  · rename_i c
    obtain ⟨_, rfl, rfl⟩ := val_get h
    refine FnM_of_run hst0 TabOK.zero (k := 1) (N := 0) tr_token_digit ((run_digit 0 c).trans ?_)
    unfold digitS; simp only [ge_iff_le]
    cases decide (48 ≤ c) <;> cases decide (c ≤ 57) <;> rfl
  · cases h
theorem tok_nm : TabOK PP GL 0 K_nm := (TabOK.zero.told ok_letter).told ok_digit
theorem ok_next_1 : TOK f_token_lexer_next_1 T_next_1 := by
  intro args objs r objs' h
  unfold T_next_1 at h
  split at h
  · rename_i c
    obtain ⟨_, rfl, rfl⟩ := val_get h
    refine FnM_of_run hst0 tok_nm (k := 1) (N := 0) tr_token_lexer_next_1 ((run_next_1 0 c).trans ?_)
    cases letterS c <;> cases digitS c <;> rfl
  · cases h
theorem ok_skip_1 : TOK f_token_lexer_skip_1 T_skip_1 := by
  intro args objs r objs' h
  unfold T_skip_1 at h
  split at h
  · rename_i c
    obtain ⟨_, rfl, rfl⟩ := val_get h
    refine FnM_of_run hst0 TabOK.zero (k := 1) (N := 0) tr_token_lexer_skip_1 ((run_skip_1 0 c).trans ?_)
    cases (c != 10) <;> cases (c != 13) <;> rfl
  · cases h
theorem tok_while : TabOK PP GL 0 K_while := ((TabOK.zero.told ok_next_1).told ok_skip_1).told ok_digit
theorem okP_iff {s : ByteArray} {i : Int} (h : okP s i = true) : 0 ≤ i ∧ i ≤ (s.size : Int) ∧ s.size < 1152921504606846976 := by
  simp only [okP, okS, Bool.and_eq_true, decide_eq_true_eq] at h
  omega
theorem okP_mk {s : ByteArray} {i : Int} (h0 : 0 ≤ i) (h1 : i ≤ (s.size : Int)) (h2 : s.size < 1152921504606846976) : okP s i = true := by
  simp only [okP, okS, Bool.and_eq_true, decide_eq_true_eq]
  omega
theorem ok_while : TOK f_token_lexer_while T_while := by
  intro args objs r objs' h
  unfold T_while at h
  split at h
  · rename_i i f s a l e fa
    split at h
    · rename_i p hp
      obtain ⟨hk, rfl, rfl⟩ := val_get h
      obtain ⟨h0, h1, h2⟩ := okP_iff hk
      unfold whileP at hp
      cases hb1 : Nat.beq f f_token_lexer_next_1 with
      | true =>
        rw [hb1] at hp
        obtain rfl := Nat.eq_of_beq_eq_true hb1
        cases hp
        refine FnM_of_run hst0 tok_while (k := 3) (N := s.size + 1) tr_token_lexer_while ((run_while_nm _ i s a e fa l).trans ?_)
        exact while_run (L := fun n i => L0_while_nm (s.size + 1) n s a e fa l i) (out := fun i => (.pv (.int .i64 i), [lexO s a l e fa])) (fun n i => L0_while_nm_eq _ n s a e fa l i) h2 s.size (s.size + 1) i h0 h1 (by omega) (by omega)
      | false =>
        rw [hb1] at hp
        cases hb2 : Nat.beq f f_token_lexer_skip_1 with
        | true =>
          rw [hb2] at hp
          obtain rfl := Nat.eq_of_beq_eq_true hb2
          cases hp
          refine FnM_of_run hst0 tok_while (k := 3) (N := s.size + 1) tr_token_lexer_while ((run_while_sk _ i s a e fa l).trans ?_)
          exact while_run (L := fun n i => L0_while_sk (s.size + 1) n s a e fa l i) (out := fun i => (.pv (.int .i64 i), [lexO s a l e fa])) (fun n i => L0_while_sk_eq _ n s a e fa l i) h2 s.size (s.size + 1) i h0 h1 (by omega) (by omega)
        | false =>
          rw [hb2] at hp
          cases hb3 : Nat.beq f f_token_digit with
          | true =>
            rw [hb3] at hp
            obtain rfl := Nat.eq_of_beq_eq_true hb3
            cases hp
            refine FnM_of_run hst0 tok_while (k := 3) (N := s.size + 1) tr_token_lexer_while ((run_while_dg _ i s a e fa l).trans ?_)
            exact while_run (L := fun n i => L0_while_dg (s.size + 1) n s a e fa l i) (out := fun i => (.pv (.int .i64 i), [lexO s a l e fa])) (fun n i => L0_while_dg_eq _ n s a e fa l i) h2 s.size (s.size + 1) i h0 h1 (by omega) (by omega)
          | false => rw [hb3] at hp; cases hp
    · cases h
  · cases h
theorem ok_fail : TOK f_token_lexer_fail T_fail := by
  intro args objs r objs' h
  unfold T_fail at h
  split at h
  · rename_i i er s a l e fa
    obtain ⟨_, rfl, rfl⟩ := val_get h
    refine FnM_of_run hst0 TabOK.zero (k := 1) (N := 0) tr_token_lexer_fail ((run_fail 0 i er s a e fa l).trans ?_)
    cases (e == 0) <;> rfl
  · cases h
/-- What a call is handed: trees. -/
theorem args_one {w : World} {g : G} {vs : List Value} {x : AV} (h : ArgsRep w g vs [x]) : ∃ v, vs = [v] ∧ RepA w g v x := by
  obtain ⟨h1, h2⟩ := h
  obtain ⟨v, rfl⟩ := List.length_eq_one_iff.1 h1
  exact ⟨v, rfl, (h2 0 v x rfl rfl).1⟩
theorem args_two {w : World} {g : G} {vs : List Value} {x y : AV} (h : ArgsRep w g vs [x, y]) : ∃ v u, vs = [v, u] ∧ RepA w g v x ∧ RepA w g u y := by
  obtain ⟨h1, h2⟩ := h
  match vs, h1 with
  | [v, u], _ => exact ⟨v, u, rfl, (h2 0 v x rfl rfl).1, (h2 1 u y rfl rfl).1⟩
theorem ok_IndexByte : TOK f_strings_IndexByte T_IndexByte := by
  intro args objs r objs' h
  unfold T_IndexByte at h
  split at h
  · rename_i s c
    obtain ⟨_, rfl, rfl⟩ := val_get h
    refine FnM_quiet ⟨_, Go.Proofs.Tryz.func79, by kernel_rfl, by decide⟩ fun w g vs _ _ ha hw => ?_
    obtain ⟨v, u, rfl, h1, h2⟩ := args_two ha
    rw [h1.str_inv, h2.int_inv]
    exact (strings_IndexByte s c w).mono fun e w' ⟨he, hw'⟩ => ⟨_, g.com, he, .int _ _, by subst hw'; exact ⟨rfl, rfl, rfl, Nat.le_refl _, fun b hb => ⟨rfl, rfl⟩, hw.fresh⟩⟩
  · cases h
theorem tok_skip : TabOK PP GL 0 K_skip := (TabOK.zero.told ok_while).told ok_IndexByte

theorem skipF_bd (s : ByteArray) : ∀ (m : Nat) (i : Int), i ≤ (s.size : Int) → i ≤ skipF s m i ∧ skipF s m i ≤ (s.size : Int)
  | 0, i, h => ⟨Int.le_refl _, h⟩
  | m + 1, i, h => by
    simp only [skipF]
    by_cases hlt : i < (s.size : Int)
    · rw [ct (dt hlt)]
      cases blankS (byteAt s i) with
      | true => have := skipF_bd s m (i + 1) (by omega); exact ⟨by show i ≤ skipF s m (i + 1); omega, this.2⟩
      | false =>
        cases (byteAt s i == 35) with
        | false => exact ⟨Int.le_refl _, h⟩
        | true =>
          have h1 := whileF_bd rowS s s.size i h
          have := skipF_bd s m (whileS rowS s i) h1.2
          exact ⟨by show i ≤ skipF s m (whileS rowS s i); have h2 := h1.1; unfold whileS at *; omega, this.2⟩
    · rw [cf (df hlt)]; exact ⟨Int.le_refl _, h⟩
/-- A loop of that form goes on by one at least where the first byte is of the kind. -/
theorem whileS_lt {p : Int → Bool} {s : ByteArray} {i : Int} (h0 : 0 ≤ i) (h : i < (s.size : Int)) (hp : p (byteAt s i) = true) : i < whileS p s i := by
  unfold whileS
  obtain ⟨m, hm⟩ : ∃ m, s.size = m + 1 := ⟨s.size - 1, by omega⟩
  rw [hm]
  simp only [whileF]
  rw [ct (by rw [dt h, hp]; rfl)]
  have := (whileF_bd p s m (i + 1) (by omega)).1
  omega
theorem skip_run {s : ByteArray} {e fa : Int} {l : List (List PV)} {N : Nat} (hs : s.size < 1152921504606846976) : ∀ (m n : Nat) (i : Int), 0 ≤ i → i ≤ (s.size : Int) → (s.size : Int) - i < m → m ≤ n →
    L0_skip N n s e fa l i = some (.pv (.tup []), [lexO s (skipF s m i) l e fa])
  | 0, n, i, h0, h1, h2, _ => by omega
  | m + 1, 0, i, _, _, _, h => by omega
  | m + 1, n + 1, i, h0, h1, h2, h3 => by
    rw [L0_skip_eq]
    simp only [skipF]
    by_cases hlt : i < (s.size : Int)
    · rw [ct (dt hlt), ct (dt hlt), ct (by rw [dt h0, dt hlt]; rfl)]
      show cond (blankS (byteAt s i)) _ _ = _
      cases hb : blankS (byteAt s i) with
      | true =>
        rw [ct rfl, ct rfl, wr (by omega) (by omega)]
        exact skip_run hs m n (i + 1) (by omega) (by omega) (by omega) (by omega)
      | false =>
        rw [cf rfl, cf rfl]
        cases h35 : (byteAt s i == 35) with
        | false => rfl
        | true =>
          rw [ct rfl, ct rfl, ct (okP_mk h0 h1 hs)]
          have hrow : rowS (byteAt s i) = true := by
            have : byteAt s i = 35 := by simpa using h35
            rw [this]; rfl
          have h4 := whileS_lt h0 hlt hrow
          have h5 := (whileF_bd rowS s s.size i h1).2
          exact skip_run hs m n _ (by omega) h5 (by unfold whileS at *; omega) (by omega)
    · rw [cf (df hlt), cf (df hlt)]; rfl
theorem ok_skip : TOK f_token_lexer_skip T_skip := by
  intro args objs r objs' h
  unfold T_skip at h
  split at h
  · rename_i s a l e fa
    obtain ⟨hk, rfl, rfl⟩ := val_get h
    obtain ⟨h0, h1, h2⟩ := okP_iff hk
    refine FnM_of_run hst0 tok_skip (k := 1) (N := s.size + 1) tr_token_lexer_skip ((run_skip _ s a e fa l).trans ?_)
    exact skip_run h2 (s.size + 1) _ a h0 h1 (by omega) (Nat.le_refl _)
  · cases h
theorem ok_HasPrefix0 : TOK f_stringslite_HasPrefix T_HasPrefix := by
  intro args objs r objs' h
  unfold T_HasPrefix at h
  split at h
  · rename_i s p
    obtain ⟨_, rfl, rfl⟩ := val_get h
    refine FnM_of_run hst0 TabOK.zero (k := 1) (N := 0) tr_stringslite_HasPrefix ((run_HasPrefix0 0 s p).trans ?_)
    unfold hasPre
    by_cases hp : p.size ≤ s.size
    · rw [ct (dt (by omega)), ct (dt (by omega)), dt hp]
      simp only [Int.toNat_natCast, Bool.true_and]
    · rw [cf (df (by omega)), df hp]
      rfl
  · cases h
theorem ok_HasPrefix : TOK f_strings_HasPrefix T_HasPrefix := by
  intro args objs r objs' h
  unfold T_HasPrefix at h
  split at h
  · rename_i s p
    obtain ⟨_, rfl, rfl⟩ := val_get h
    exact FnM_of_run hst0 (TabOK.zero.told ok_HasPrefix0) (k := 1) (N := 0) tr_strings_HasPrefix (run_HasPrefix 0 s p)
  · cases h
theorem ok_take : TOK f_token_lexer_take T_take := by
  intro args objs r objs' h
  unfold T_take at h
  split at h
  · rename_i k t en s a l e fa
    obtain ⟨hk, rfl, rfl⟩ := val_get h
    simp only [decide_eq_true_eq] at hk
    refine FnM_of_run hst0 TabOK.zero (k := 1) (N := 0) tr_token_lexer_take ((run_take 0 k en t s a e fa l).trans ?_)
    rw [ct (Nat.ble_eq_true_of_le (by omega))]
    rfl
  · cases h
theorem tok_next : TabOK PP GL 0 K_next' := ((((((TabOK.zero.told ok_while).told ok_IndexByte).told ok_fail).told ok_letter).told ok_digit).told ok_take).told ok_HasPrefix

theorem hasPre_first {s p : ByteArray} (h : hasPre s p = true) (hp : 0 < p.size) : byteAt s 0 = byteAt p 0 := by
  unfold hasPre at h
  simp only [Bool.and_eq_true, decide_eq_true_eq] at h
  have h2 : (s.extract 0 p.size).toList = p.toList := by simpa using h.2
  rw [Lib.toList_data, Lib.toList_data, extract_bytes] at h2
  unfold byteAt
  rw [← h2]
  simp only [Int.toNat_zero, List.drop_zero, Nat.sub_zero, List.getD_eq_getElem?_getD, List.getElem?_take]
  rw [if_pos hp]

theorem ok_nextA : TOK f_token_lexer_next T_nextA := by
  intro args objs r objs' h
  unfold T_nextA at h
  split at h
  · rename_i s a l e fa
    obtain ⟨hk, rfl, rfl⟩ := val_get h
    simp only [Bool.and_eq_true, decide_eq_true_eq, Bool.or_eq_true] at hk
    obtain ⟨⟨⟨hP, hlt⟩, hl⟩, hc⟩ := hk
    obtain ⟨h0, h1, h2⟩ := okP_iff hP
    have hsz : (((s.extract a.toNat (Int.toNat (s.size : Int))).size : Nat) : Int) = s.size - a := sub_size h0 h1 (Int.le_refl _)
    have hb0 : byteAt (s.extract a.toNat (Int.toNat (s.size : Int))) 0 = byteAt s a := by rw [byteAt_sub h0 (Int.le_refl _) (by omega) (Int.le_refl _), Int.add_zero]
    refine FnM_of_run hst0 tok_next (k := 3) (N := 0) tr_token_lexer_next ((run_next 0 s a e fa l).trans ?_)
    rw [hb0, hsz]
    rw [ct (by rw [dt h0, dt h1, dt (Int.le_refl _)]; rfl), ct (dt (by omega))]
    by_cases h9 : l.length = 900
    · rw [ct (by rw [h9]; rfl), dt h9]
      simp only [Bool.true_and]
      cases (e == 0) <;> rfl
    · rw [cf (by rw [beq_eq_false_iff_ne]; omega), df h9]
      show cond (signS (byteAt s a)) _ _ = _
      cases hsg : signS (byteAt s a) with
      | true =>
        rw [ct rfl, ct (dt (by omega)), ct (dt (by omega)), wr (by omega) (by omega)]
        have e1 : (s.extract a.toNat (Int.toNat (s.size : Int))).extract 0 1 = sub s a (a + 1) := by
          apply ext_bytes
          unfold sub
          rw [extract_bytes, extract_bytes, extract_bytes, List.drop_zero, List.take_take]
          congr 1
          omega
        rw [e1]
        rfl
      | false =>
        rw [hsg] at hc
        have hlet : letterS (byteAt s a) = true := by simpa using hc
        have hpre : hasPre (s.extract a.toNat (Int.toNat (s.size : Int))) (ba [46, 46, 46]) = false := by
          cases hq : hasPre (s.extract a.toNat (Int.toNat (s.size : Int))) (ba [46, 46, 46]) with
          | false => rfl
          | true =>
            have := hasPre_first hq (by decide)
            rw [hb0] at this
            rw [this] at hlet
            revert hlet
            decide
        have hw : a ≤ whileS nmS s a ∧ whileS nmS s a ≤ (s.size : Int) := whileF_bd nmS s s.size a h1
        rw [cf rfl, cf hpre, ct hlet, ct hP, ct (by rw [dt h0, dt hw.1, dt hw.2]; rfl), ct (dt (by omega))]
        rfl
  · cases h

theorem ok_BadA : TOK f_text_Bad T_BadA := by
  intro args objs r objs' h
  unfold T_BadA at h
  split at h
  · rename_i s
    obtain ⟨hk, rfl, rfl⟩ := val_get h
    simp only [Bool.and_eq_true] at hk
    have hall : ∀ i : Nat, i < s.size → byteAt s (i : Int) < 128 := by
      intro i hi
      have := List.all_eq_true.1 hk.1 (s.data.toList.getD i 0) (by rw [List.getD_eq_getElem?_getD, List.getElem?_eq_getElem (by rw [← size_eq]; exact hi)]; exact List.getElem_mem _)
      unfold byteAt
      simp only [Int.toNat_natCast]
      have := of_decide_eq_true this
      omega
    have key : ∀ (m n i : Nat), s.size - i ≤ m → m < n → L0_text_BadA (s.size + 1) n s i = some (.pv (.int .i64 (-1)), []) := by
      intro m
      induction m with
      | zero =>
        intro n i hi hn
        obtain ⟨n, rfl⟩ : ∃ k, n = k + 1 := ⟨n - 1, by omega⟩
        rw [L0_text_BadA_eq, cf (blt_f (by omega))]
      | succ m ih =>
        intro n i hi hn
        obtain ⟨n, rfl⟩ : ∃ k, n = k + 1 := ⟨n - 1, by omega⟩
        rw [L0_text_BadA_eq]
        by_cases hlt : i < s.size
        · have hb := hall i hlt
          rw [ct (blt_t hlt), decode_ascii hlt hb, ct]
          · exact ih n (i + 1) (by omega) (by omega)
          · have : byteAt s (i : Int) = ((s.data.toList.getD i 0).toNat : Int) := by unfold byteAt; simp only [Int.toNat_natCast]
            rw [bne_iff_ne]
            omega
        · rw [cf (blt_f (by omega))]
    exact FnM_of_run hst0 TabOK.zero (k := 1) (N := s.size + 1) tr_text_Bad ((run_text_BadA _ s).trans (key s.size _ 0 (by omega) (by omega)))
  · cases h

def lexOut (l : List (List PV)) (e a : Int) : Option (AV × List AObj) := some (.pv (.tup [.sl 3 l, .agg [.int .i64 e, .int .i64 a]]), [])
theorem tok_Lex : TabOK PP GL 0 K_Lex := ((TabOK.zero.told ok_BadA).told ok_skip).told ok_nextA
theorem lexP_loop {s : ByteArray} {N : Nat} (hs : s.size < 1152921504606846976) : ∀ (n u : Nat) (i : Int) (l : List (List PV)), 0 ≤ i → i ≤ (s.size : Int) → n ≤ u → lexG s n i l.length = true →
    L0_Lex N u s i l 0 0 = lexOut (lexF s n i l) 0 0
  | 0, u, i, l, _, _, _, h => by cases h
  | n + 1, 0, i, l, _, _, h, _ => by omega
  | n + 1, u + 1, i, l, h0, h1, hn, h => by
    rw [L0_Lex_eq]
    simp only [lexG] at h
    simp only [lexF]
    by_cases hlt : i < (s.size : Int)
    · rw [ct (dt hlt)] at h
      rw [ct (dt hlt), ct (dt hlt), ct (show ((0 : Int) == 0) = true from rfl)]
      simp only [Bool.and_eq_true, decide_eq_true_eq] at h
      obtain ⟨hk, h⟩ := h
      have hP : okP s i = true := okP_mk h0 h1 hs
      rw [df (show ¬ l.length = 900 by omega)]
      simp only [Bool.false_and, cond_false]
      cases hsg : signS (byteAt s i) with
      | true =>
        rw [hsg] at h
        have hb := skipF_bd s (s.size + 1) (i + 1) (by omega)
        rw [ct (by rw [hP, dt hlt, dt (show l.length < 100000 by omega)]; rfl)]
        simp only [cond_true]
        rw [ct (okP_mk (by omega) (by omega) hs)]
        exact lexP_loop hs n u _ _ (by unfold skipS; omega) hb.2 (by omega) (by rw [List.length_append]; exact h)
      | false =>
        rw [hsg] at h
        simp only [cond_false, Bool.and_eq_true] at h
        have hw : i ≤ whileS nmS s i ∧ whileS nmS s i ≤ (s.size : Int) := whileF_bd nmS s s.size i h1
        have hb := skipF_bd s (s.size + 1) (whileS nmS s i) hw.2
        rw [ct (by rw [hP, dt hlt, dt (show l.length < 100000 by omega), h.1]; rfl)]
        simp only [cond_false]
        rw [ct (okP_mk (by omega) (by omega) hs)]
        exact lexP_loop hs n u _ _ (by unfold skipS; omega) hb.2 (by omega) (by rw [List.length_append]; exact h.2)
    · rw [cf (df hlt), cf (df hlt)]
      rfl
theorem okS_mk {s : ByteArray} (h : s.size < 1152921504606846976) : okS s = true := decide_eq_true h
theorem ok_LexP : TOK f_token_Lex T_LexP := by
  intro args objs r objs' h
  unfold T_LexP at h
  split at h
  · rename_i s
    obtain ⟨hk, rfl, rfl⟩ := val_get h
    simp only [plainP, Bool.and_eq_true, decide_eq_true_eq] at hk
    obtain ⟨h4, ha, hg⟩ := hk
    have hsz : s.size < 1152921504606846976 := by omega
    have hb := skipF_bd s (s.size + 1) 0 (by omega)
    refine FnM_of_run hst0 tok_Lex (k := 3) (N := s.size + 1) tr_token_Lex ((run_Lex _ s).trans ?_)
    rw [cf (df (by omega)), ct (by rw [ha, okS_mk hsz]; rfl), ct (okP_mk (Int.le_refl _) (by omega) hsz)]
    exact lexP_loop hsz (s.size + 1) _ _ [] hb.1 hb.2 (Nat.le_refl _) hg
  · cases h
end Go.W
