/- Plain laws over scan: what cuts a token, chains of tokens. No program. -/
import Derived.Test.YtklhfbgmadblcaaDoorB5
namespace Go.Proofs.YtklhfbgmadblcaaDoor
open Go
set_option linter.unusedVariables false
set_option linter.unusedSimpArgs false

/-! bytes behind what is none -/
theorem enc_tail {c i : Nat} {b : UInt8} (h : (enc c)[i]? = some b) (hi : 1 ≤ i) : 128 ≤ b.toNat := by
  have k : ∀ x : Nat, x < 64 → 128 ≤ (UInt8.ofNat (0x80 + x)).toNat := fun x hx => by simp only [UInt8.toNat_ofNat']; omega
  have m1 : c % 64 < 64 := Nat.mod_lt _ (by omega)
  have m2 : c / 64 % 64 < 64 := Nat.mod_lt _ (by omega)
  have m3 : c / 4096 % 64 < 64 := Nat.mod_lt _ (by omega)
  obtain ⟨i, rfl⟩ : ∃ j, i = j + 1 := ⟨i - 1, by omega⟩
  unfold enc at h
  repeat' split at h
  all_goals simp only [List.getElem?_cons_succ] at h
  · cases i <;> simp at h
  · rcases i with _ | i
    · simp only [List.getElem?_cons_zero, List.getElem?_cons_succ, Option.some.injEq] at h; subst h; exact k _ m1
    · simp at h
  · rcases i with _ | _ | i
    · simp only [List.getElem?_cons_zero, List.getElem?_cons_succ, Option.some.injEq] at h; subst h; exact k _ m2
    · simp only [List.getElem?_cons_zero, List.getElem?_cons_succ, Option.some.injEq] at h; subst h; exact k _ m1
    · simp at h
  · rcases i with _ | _ | _ | i
    · simp only [List.getElem?_cons_zero, List.getElem?_cons_succ, Option.some.injEq] at h; subst h; exact k _ m3
    · simp only [List.getElem?_cons_zero, List.getElem?_cons_succ, Option.some.injEq] at h; subst h; exact k _ m2
    · simp only [List.getElem?_cons_zero, List.getElem?_cons_succ, Option.some.injEq] at h; subst h; exact k _ m1
    · simp at h

/-- bytes that are no code point are none with a byte below 128 behind them -/
theorem dec_stop {t : List UInt8} (h0 : t ≠ []) (h : dec t = none) {b : UInt8} (hb : b.toNat < 128) (m : List UInt8) : dec (t ++ b :: m) = none := by
  cases hd : dec (t ++ b :: m) with
  | none => rfl
  | some p =>
    exfalso
    obtain ⟨c, n⟩ := p
    obtain ⟨h1, h2, h3⟩ := dec_spec hd
    by_cases hn : n ≤ t.length
    · have e : t = enc c ++ t.drop n := by
        have := congrArg (List.take t.length) h3
        rw [List.take_left] at this
        rw [List.take_append, List.take_of_length_le (by omega)] at this
        conv => lhs; rw [this]
        rw [← h2]
        congr 1
        rw [List.drop_append_of_le_length hn, List.take_append_of_le_length (by simp), List.take_of_length_le (by simp)]
      rw [e, dec_enc h1] at h
      cases h
    · have hlt : 1 ≤ t.length := by cases t with | nil => exact absurd rfl h0 | cons _ _ => simp
      have e : (enc c)[t.length]? = some b := by
        have := congrArg (·[t.length]?) h3
        simp only [List.getElem?_append_right (Nat.le_refl _), Nat.sub_self, List.getElem?_cons_zero] at this
        rw [List.getElem?_append_left (by omega)] at this
        exact this.symm
      have := enc_tail e hlt
      omega

/-! skipping -/
theorem skipC_app : ∀ (cs : List Nat) (cm : Bool) (c : Nat) (r X : List Nat), skipC cm cs = c :: r → skipC cm (cs ++ X) = c :: (r ++ X)
  | [], cm, c, r, X, h => by simp [skipC] at h
  | d :: cs, cm, c, r, X, h => by
    simp only [skipC, List.cons_append] at h ⊢
    by_cases h1 : d = 10
    · rw [if_pos h1] at h ⊢; exact skipC_app cs false c r X h
    · rw [if_neg h1] at h ⊢
      by_cases h2 : cls d = 6
      · rw [if_pos h2] at h ⊢; exact skipC_app cs true c r X h
      · rw [if_neg h2] at h ⊢
        cases cm with
        | true => simp only [if_true] at h ⊢; exact skipC_app cs true c r X h
        | false =>
          simp only [Bool.false_eq_true, if_false] at h ⊢
          by_cases h3 : cls d = 1
          · rw [if_pos h3] at h ⊢; exact skipC_app cs false c r X h
          · rw [if_neg h3] at h ⊢
            cases h; rfl
/-- what is passed is passed, whatever comes -/
theorem skipC_past : ∀ (A B : List Nat) (cm : Bool), skipC cm (A ++ B) = B → (∀ c r, B = c :: r → skipC false B = B) → ∃ cm', ∀ Z, skipC cm (A ++ Z) = skipC cm' Z
  | [], B, cm, h, h2 => ⟨cm, fun Z => rfl⟩
  | d :: A, B, cm, h, h2 => by
    simp only [skipC, List.cons_append] at h ⊢
    by_cases h1 : d = 10
    · simp only [if_pos h1] at h ⊢; exact skipC_past A B false h h2
    · simp only [if_neg h1] at h ⊢
      by_cases h3 : cls d = 6
      · simp only [if_pos h3] at h ⊢; exact skipC_past A B true h h2
      · simp only [if_neg h3] at h ⊢
        cases cm with
        | true => simp only [if_true] at h ⊢; exact skipC_past A B true h h2
        | false =>
          simp only [Bool.false_eq_true, if_false] at h ⊢
          by_cases h4 : cls d = 1
          · simp only [if_pos h4] at h ⊢; exact skipC_past A B false h h2
          · exfalso
            rw [if_neg h4] at h
            have := congrArg List.length h
            simp at this; omega

/-- does a token begin here? -/
def tokHead (c : Nat) : Prop := cls c ≠ 6 ∧ cls c ≠ 1 ∧ c ≠ 10
theorem skipC_head {c : Nat} (h : tokHead c) (r : List Nat) : skipC false (c :: r) = c :: r := by
  obtain ⟨h1, h2, h3⟩ := h
  simp [skipC, h1, h2, h3]
theorem skipC_tokHead : ∀ (cs : List Nat) (cm : Bool) (c : Nat) (r : List Nat), skipC cm cs = c :: r → tokHead c
  | [], cm, c, r, h => by simp [skipC] at h
  | d :: cs, cm, c, r, h => by
    simp only [skipC] at h
    by_cases h1 : d = 10
    · rw [if_pos h1] at h; exact skipC_tokHead cs false c r h
    · rw [if_neg h1] at h
      by_cases h2 : cls d = 6
      · rw [if_pos h2] at h; exact skipC_tokHead cs true c r h
      · rw [if_neg h2] at h
        cases cm with
        | true => simp only [if_true] at h; exact skipC_tokHead cs true c r h
        | false =>
          simp only [Bool.false_eq_true, if_false] at h
          by_cases h3 : cls d = 1
          · rw [if_pos h3] at h; exact skipC_tokHead cs false c r h
          · rw [if_neg h3] at h
            cases h; exact ⟨h2, h3, h1⟩
theorem cls_hash {c : Nat} (h : cls c = 6) : c = 35 := by
  unfold cls at h
  repeat' split at h
  all_goals first | omega | skip
theorem tokHead_of {c : Nat} (h : cls c = 2 ∨ cls c = 3 ∨ cls c = 5) : tokHead c := by
  refine ⟨by omega, by omega, ?_⟩
  rintro rfl
  have : cls (10 : Nat) = 1 := by decide
  omega

/-! what ends a token -/
/-- may z stand behind a token of kind k? -/
def good (k : Int) (z : Nat) : Prop := (k = 1 → part z = false) ∧ (k = 2 → digit z = false)
theorem part_digit {z : Nat} (h : part z = false) : digit z = false := by
  simp [part, digit] at *; omega
theorem good_of {z : Nat} (h : part z = false) (k : Int) : good k z := ⟨fun _ => h, fun _ => part_digit h⟩
theorem takeWhile_stop {p : Nat → Bool} : ∀ (l Z : List Nat), (∀ z, Z.head? = some z → p z = false) → (l.takeWhile p ++ Z).takeWhile p = l.takeWhile p
  | [], Z, h => by
    cases Z with
    | nil => rfl
    | cons z Z => simp [h z rfl]
  | c :: l, Z, h => by
    by_cases hc : p c = true
    · simp [List.takeWhile_cons_of_pos hc, takeWhile_stop l Z h]
    · simp only [List.takeWhile_cons_of_neg hc, List.nil_append]
      cases Z with
      | nil => rfl
      | cons z Z => simp [h z rfl]
theorem takeWhile_take (p : Nat → Bool) (l : List Nat) : l.take (l.takeWhile p).length = l.takeWhile p := by
  induction l with
  | nil => rfl
  | cons c l ih =>
    by_cases hc : p c = true
    · simp [List.takeWhile_cons_of_pos hc, ih]
    · simp [List.takeWhile_cons_of_neg hc]
theorem takeWhile_rest (p : Nat → Bool) : ∀ (l : List Nat) (z : Nat) (Z : List Nat), l.drop (l.takeWhile p).length = z :: Z → p z = false
  | [], z, Z, h => by simp at h
  | c :: l, z, Z, h => by
    by_cases hc : p c = true
    · simp only [List.takeWhile_cons_of_pos hc, List.length_cons, List.drop_succ_cons] at h
      exact takeWhile_rest p l z Z h
    · simp only [List.takeWhile_cons_of_neg hc, List.length_nil, List.drop_zero, List.cons.injEq] at h
      obtain ⟨rfl, _⟩ := h
      simpa using hc
theorem takeWhile_cons_take {p : Nat → Bool} {c : Nat} {r : List Nat} (h : p c = true) (Z : List Nat) : ∃ r', (c :: r).takeWhile p ++ Z = c :: r' := ⟨r.takeWhile p ++ Z, by simp [List.takeWhile_cons_of_pos h]⟩
/-- a token is the same, whatever stands behind it that may -/
theorem tk_cut {c : Nat} {r : List Nat} {k : Int} {x : List UInt8} {m : Nat} (h : tk (c :: r) = .ok k x m) (Z : List Nat) (hZ : ∀ z, Z.head? = some z → good k z) : tk ((c :: r).take m ++ Z) = .ok k x m := by
  simp only [tk] at h
  split at h
  · rename_i h2
    have hp : part c = true := by unfold part; simp [h2]
    split at h
    · cases h
    · rename_i h16
      cases h
      rw [takeWhile_take]
      obtain ⟨r', e⟩ := takeWhile_cons_take (r := r) hp Z
      have hw := takeWhile_stop (p := part) (c :: r) Z (fun z hz => (hZ z hz).1 rfl)
      rw [e] at hw ⊢
      simp only [tk, h2, if_true, hw, if_neg h16]
  · rename_i h2
    split at h
    · rename_i h3
      have hp : digit c = true := by unfold digit; simp [h3]
      split at h
      · cases h
      · rename_i hb
        cases h
        rw [takeWhile_take]
        obtain ⟨r', e⟩ := takeWhile_cons_take (r := r) hp Z
        have hw := takeWhile_stop (p := digit) (c :: r) Z (fun z hz => (hZ z hz).2 rfl)
        rw [e] at hw ⊢
        simp only [tk]
        rw [if_neg h2, if_pos h3, hw, if_neg hb]
    · rename_i h3
      split at h
      · rename_i h5
        split at h
        · rename_i e
          cases h
          simp only [List.take_succ_cons, List.take_zero, List.cons_append, List.nil_append, tk]
          rw [if_neg h2, if_neg h3, if_pos h5, if_pos e]
        · split at h
          · rename_i e0 e
            cases h
            simp only [List.take_succ_cons, List.take_zero, List.cons_append, List.nil_append, tk]
            rw [if_neg h2, if_neg h3, if_pos h5, if_neg e0, if_pos e]
          · split at h
            · rename_i e1 e2 e3
              split at h
              · rename_i e4
                cases h
                cases r with
                | nil => simp at e4
                | cons d r =>
                  simp at e4; subst e4
                  simp only [List.take_succ_cons, List.take_zero, List.cons_append, List.nil_append, tk, List.head?_cons]
                  rw [if_neg h2, if_neg h3, if_pos h5, if_neg e1, if_neg e2, if_pos e3, if_pos trivial]
              · cases h
            · rename_i e1 e2 e3
              cases h
              simp only [List.take_succ_cons, List.take_zero, List.cons_append, List.nil_append, tk]
              rw [if_neg h2, if_neg h3, if_pos h5, if_neg e1, if_neg e2, if_neg e3]
      · cases h
/-- what stands behind a token may stand there -/
theorem tk_rest {c : Nat} {r : List Nat} {k : Int} {x : List UInt8} {m : Nat} (h : tk (c :: r) = .ok k x m) (z : Nat) (hz : ((c :: r).drop m).head? = some z) : good k z := by
  have hz' : ∃ Z, (c :: r).drop m = z :: Z := by
    cases hd : (c :: r).drop m with
    | nil => rw [hd] at hz; cases hz
    | cons a Z => rw [hd] at hz; simp at hz; subst hz; exact ⟨Z, rfl⟩
  obtain ⟨Z, hd⟩ := hz'
  simp only [tk] at h
  split at h
  · split at h
    · cases h
    · cases h
      exact good_of (takeWhile_rest part _ z Z hd) _
  · split at h
    · split at h
      · cases h
      · cases h
        exact ⟨fun e => by omega, fun _ => takeWhile_rest digit _ z Z hd⟩
    · have : k = 3 := by
        repeat' split at h
        all_goals first | (cases h; rfl) | cases h
      subst this
      exact ⟨fun e => by omega, fun e => by omega⟩
/-- what is refused is refused, whatever stands behind it that is no part -/
theorem tk_bad_cut {c : Nat} {r : List Nat} {e : Int} (h : tk (c :: r) = .bad e) (z : Nat) (Z : List Nat) (hz : part z = false) (h61 : z ≠ 61) : tk (c :: (r ++ z :: Z)) = .bad e := by
  have tw : ∀ p : Nat → Bool, p z = false → (c :: (r ++ z :: Z)).takeWhile p = (c :: r).takeWhile p := fun p hp => by
    have : ∀ l : List Nat, (l ++ z :: Z).takeWhile p = l.takeWhile p := by
      intro l
      induction l with
      | nil => simp [hp]
      | cons a l ih =>
        by_cases ha : p a = true
        · simp [List.takeWhile_cons_of_pos ha, ih]
        · simp [List.takeWhile_cons_of_neg ha]
    exact this (c :: r)
  have hd := part_digit hz
  simp only [tk] at h ⊢
  rw [tw part hz, tw digit hd]
  by_cases h2 : cls c = 2
  · rw [if_pos h2] at h ⊢; exact h
  · rw [if_neg h2] at h ⊢
    by_cases h3 : cls c = 3
    · rw [if_pos h3] at h ⊢; exact h
    · rw [if_neg h3] at h ⊢
      by_cases h5 : cls c = 5
      · rw [if_pos h5] at h ⊢
        by_cases e1 : c = 8788
        · rw [if_pos e1] at h ⊢; exact h
        · rw [if_neg e1] at h ⊢
          by_cases e2 : c = 8800
          · rw [if_pos e2] at h ⊢; exact h
          · rw [if_neg e2] at h ⊢
            by_cases e3 : c = 58 ∨ c = 33
            · rw [if_pos e3] at h ⊢
              have : (r ++ z :: Z).head? = some 61 ↔ r.head? = some 61 := by
                cases r with
                | nil => simp [h61]
                | cons a r => simp
              simp only [this]
              exact h
            · rw [if_neg e3] at h ⊢; exact h
      · rw [if_neg h5] at h ⊢; exact h

/-! chains of tokens -/
inductive SC : List Nat → List Nat → List Tok → Prop where
  | done {pre cs : List Nat} (h : skipC false cs = []) : SC pre cs [⟨0, [], along start (pre ++ cs)⟩]
  | step {pre cs : List Nat} {c : Nat} {r : List Nat} {k : Int} {x : List UInt8} {m : Nat} {l : List Tok} (h : skipC false cs = c :: r) (ht : tk (c :: r) = .ok k x m)
      (hl : SC (pre ++ skipped cs ++ (c :: r).take m) ((c :: r).drop m) l) : SC pre cs (⟨k, x, along start (pre ++ skipped cs)⟩ :: l)

theorem sc_of_scan : ∀ (n : Nat) (brk : Bool) (pre cs : List Nat) (l : List Tok), cs.length < n → scan brk n pre cs = .ok l → brk = false ∧ SC pre cs l
  | 0, brk, pre, cs, l, hn, h => by omega
  | n + 1, brk, pre, cs, l, hn, h => by
    simp only [scan] at h
    split at h
    · rename_i hs
      cases brk with
      | true => simp at h
      | false => simp at h; subst h; exact ⟨rfl, .done hs⟩
    · rename_i c r hs
      split at h
      · cases h
      · rename_i k x m ht
        cases hR : scan brk n (pre ++ skipped cs ++ (c :: r).take m) ((c :: r).drop m) with
        | bad e p => rw [hR] at h; cases h
        | ok l' =>
          rw [hR] at h
          simp only [Res.cons, Res.ok.injEq] at h
          subst h
          have hm := (tk_ok ht).1
          have hle := skipC_le cs false
          rw [hs] at hle
          simp at hle
          obtain ⟨h1, h2⟩ := sc_of_scan n brk _ _ l' (by simp; omega) hR
          exact ⟨h1, .step hs ht h2⟩
theorem scan_of_sc {pre cs : List Nat} {l : List Tok} (h : SC pre cs l) : ∀ n, cs.length < n → scan false n pre cs = .ok l := by
  induction h with
  | done h =>
    intro n hn
    obtain ⟨n, rfl⟩ : ∃ j, n = j + 1 := ⟨n - 1, by omega⟩
    simp [scan, h]
  | @step pre cs c r k x m l h ht hl ih =>
    intro n hn
    obtain ⟨n, rfl⟩ : ∃ j, n = j + 1 := ⟨n - 1, by omega⟩
    have hle := skipC_le cs false
    rw [h] at hle
    simp at hle
    simp only [scan, h, ht]
    rw [ih n ?_]
    · rfl
    · have hm := (tk_ok ht).1
      simp; omega
end Go.Proofs.YtklhfbgmadblcaaDoor
