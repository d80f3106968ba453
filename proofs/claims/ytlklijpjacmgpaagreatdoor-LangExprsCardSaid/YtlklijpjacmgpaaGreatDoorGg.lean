/- Plain laws over scan. -/
import Derived.Test.YtlklijpjacmgpaaGreatDoorGf
namespace Go.Proofs.YtlklijpjacmgpaaGreatDoor
open Go
set_option linter.unusedVariables false
set_option linter.unusedSimpArgs false

/-! bytes behind what is none -/
theorem enc_tail {c i : Nat} {b : UInt8} (h : (enc c)[i]? = some b) (hi : 1 ≤ i) : 128 ≤ b.toNat := by
  have k : ∀ x : Nat, x < 64 → 128 ≤ (UInt8.ofNat (0x80 + x)).toNat := fun x hx => by simp only [UInt8.toNat_ofNat']; omega
  have m1 : c % 64 < 64 := Nat.mod_lt _ (by omega)
  have m2 : c / 64 % 64 < 64 := Nat.mod_lt _ (by omega)
  have m3 : c / 4096 % 64 < 64 := Nat.mod_lt _ (by omega)
  obtain ⟨i, rfl⟩ : ∃ j, i = j + 1 := ⟨i - 1, by omega⟩
  unfold enc at h
  repeat' split at h
  all_goals simp only [List.getElem?_cons_succ] at h
  · cases i <;> simp at h
  · rcases i with _ | i
    · simp only [List.getElem?_cons_zero, List.getElem?_cons_succ, Option.some.injEq] at h; subst h; exact k _ m1
    · simp at h
  · rcases i with _ | _ | i
    · simp only [List.getElem?_cons_zero, List.getElem?_cons_succ, Option.some.injEq] at h; subst h; exact k _ m2
    · simp only [List.getElem?_cons_zero, List.getElem?_cons_succ, Option.some.injEq] at h; subst h; exact k _ m1
    · simp at h
  · rcases i with _ | _ | _ | i
    · simp only [List.getElem?_cons_zero, List.getElem?_cons_succ, Option.some.injEq] at h; subst h; exact k _ m3
    · simp only [List.getElem?_cons_zero, List.getElem?_cons_succ, Option.some.injEq] at h; subst h; exact k _ m2
    · simp only [List.getElem?_cons_zero, List.getElem?_cons_succ, Option.some.injEq] at h; subst h; exact k _ m1
    · simp at h
/-- bytes that are no code point are none with a byte below 128 behind them -/
theorem dec_stop {t : List UInt8} (h0 : t ≠ []) (h : dec t = none) {b : UInt8} (hb : b.toNat < 128) (m : List UInt8) : dec (t ++ b :: m) = none := by
  cases hd : dec (t ++ b :: m) with
  | none => rfl
  | some p =>
    exfalso
    obtain ⟨c, n⟩ := p
    obtain ⟨h1, h2, h3⟩ := dec_spec hd
    by_cases hn : n ≤ t.length
    · have e : t = enc c ++ t.drop n := by
        have := congrArg (List.take t.length) h3
        rw [List.take_left] at this
        rw [List.take_append, List.take_of_length_le (by omega)] at this
        conv => lhs; rw [this]
        rw [← h2]
        congr 1
        rw [List.drop_append_of_le_length hn, List.take_append_of_le_length (by simp), List.take_of_length_le (by simp)]
      rw [e, dec_enc h1] at h
      cases h
    · have hlt : 1 ≤ t.length := by cases t with | nil => exact absurd rfl h0 | cons _ _ => simp
      have e : (enc c)[t.length]? = some b := by
        have := congrArg (·[t.length]?) h3
        simp only [List.getElem?_append_right (Nat.le_refl _), Nat.sub_self, List.getElem?_cons_zero] at this
        rw [List.getElem?_append_left (by omega)] at this
        exact this.symm
      have := enc_tail e hlt
      omega
/-! skipping -/
theorem skipC_app : ∀ (cs : List Nat) (cm : Bool) (c : Nat) (r X : List Nat), skipC cm cs = c :: r → skipC cm (cs ++ X) = c :: (r ++ X)
  | [], cm, c, r, X, h => by simp [skipC] at h
  | d :: cs, cm, c, r, X, h => by
    simp only [skipC, List.cons_append] at h ⊢
    by_cases h1 : d = 10
    · rw [if_pos h1] at h ⊢; exact skipC_app cs false c r X h
    · rw [if_neg h1] at h ⊢
      by_cases h2 : cls d = 6
      · rw [if_pos h2] at h ⊢; exact skipC_app cs true c r X h
      · rw [if_neg h2] at h ⊢
        cases cm with
        | true => simp only [if_true] at h ⊢; exact skipC_app cs true c r X h
        | false =>
          simp only [Bool.false_eq_true, if_false] at h ⊢
          by_cases h3 : cls d = 1
          · rw [if_pos h3] at h ⊢; exact skipC_app cs false c r X h
          · rw [if_neg h3] at h ⊢
            cases h; rfl
/-- what is passed is passed, whatever comes -/
theorem skipC_past : ∀ (A B : List Nat) (cm : Bool), skipC cm (A ++ B) = B → (∀ c r, B = c :: r → skipC false B = B) → ∃ cm', ∀ Z, skipC cm (A ++ Z) = skipC cm' Z
  | [], B, cm, h, h2 => ⟨cm, fun Z => rfl⟩
  | d :: A, B, cm, h, h2 => by
    simp only [skipC, List.cons_append] at h ⊢
    by_cases h1 : d = 10
    · simp only [if_pos h1] at h ⊢; exact skipC_past A B false h h2
    · simp only [if_neg h1] at h ⊢
      by_cases h3 : cls d = 6
      · simp only [if_pos h3] at h ⊢; exact skipC_past A B true h h2
      · simp only [if_neg h3] at h ⊢
        cases cm with
        | true => simp only [if_true] at h ⊢; exact skipC_past A B true h h2
        | false =>
          simp only [Bool.false_eq_true, if_false] at h ⊢
          by_cases h4 : cls d = 1
          · simp only [if_pos h4] at h ⊢; exact skipC_past A B false h h2
          · exfalso
            rw [if_neg h4] at h
            have := congrArg List.length h
            simp at this; omega
/-- does a token begin here? -/
def tokHead (c : Nat) : Prop := cls c ≠ 6 ∧ cls c ≠ 1 ∧ c ≠ 10
theorem skipC_head {c : Nat} (h : tokHead c) (r : List Nat) : skipC false (c :: r) = c :: r := by
  obtain ⟨h1, h2, h3⟩ := h
  simp [skipC, h1, h2, h3]
theorem skipC_tokHead : ∀ (cs : List Nat) (cm : Bool) (c : Nat) (r : List Nat), skipC cm cs = c :: r → tokHead c
  | [], cm, c, r, h => by simp [skipC] at h
  | d :: cs, cm, c, r, h => by
    simp only [skipC] at h
    by_cases h1 : d = 10
    · rw [if_pos h1] at h; exact skipC_tokHead cs false c r h
    · rw [if_neg h1] at h
      by_cases h2 : cls d = 6
      · rw [if_pos h2] at h; exact skipC_tokHead cs true c r h
      · rw [if_neg h2] at h
        cases cm with
        | true => simp only [if_true] at h; exact skipC_tokHead cs true c r h
        | false =>
          simp only [Bool.false_eq_true, if_false] at h
          by_cases h3 : cls d = 1
          · rw [if_pos h3] at h; exact skipC_tokHead cs false c r h
          · rw [if_neg h3] at h
            cases h; exact ⟨h2, h3, h1⟩
theorem cls_hash {c : Nat} (h : cls c = 6) : c = 35 := by
  unfold cls at h
  repeat' split at h
  all_goals first | omega | skip
theorem tokHead_of {c : Nat} (h : cls c = 2 ∨ cls c = 3 ∨ cls c = 5) : tokHead c := by
  refine ⟨by omega, by omega, ?_⟩
  rintro rfl
  have : cls (10 : Nat) = 1 := by decide
  omega
/-! what ends a token -/
/-- may z stand behind a token of kind k? -/
def good (k : Int) (z : Nat) : Prop := (k = 1 → part z = false) ∧ (k = 2 → digit z = false)
theorem part_digit {z : Nat} (h : part z = false) : digit z = false := by
  simp [part, digit] at *; omega
theorem good_of {z : Nat} (h : part z = false) (k : Int) : good k z := ⟨fun _ => h, fun _ => part_digit h⟩
theorem takeWhile_stop {p : Nat → Bool} : ∀ (l Z : List Nat), (∀ z, Z.head? = some z → p z = false) → (l.takeWhile p ++ Z).takeWhile p = l.takeWhile p
  | [], Z, h => by
    cases Z with
    | nil => rfl
    | cons z Z => simp [h z rfl]
  | c :: l, Z, h => by
    by_cases hc : p c = true
    · simp [List.takeWhile_cons_of_pos hc, takeWhile_stop l Z h]
    · simp only [List.takeWhile_cons_of_neg hc, List.nil_append]
      cases Z with
      | nil => rfl
      | cons z Z => simp [h z rfl]
theorem takeWhile_take (p : Nat → Bool) (l : List Nat) : l.take (l.takeWhile p).length = l.takeWhile p := by
  induction l with
  | nil => rfl
  | cons c l ih =>
    by_cases hc : p c = true
    · simp [List.takeWhile_cons_of_pos hc, ih]
    · simp [List.takeWhile_cons_of_neg hc]
theorem takeWhile_rest (p : Nat → Bool) : ∀ (l : List Nat) (z : Nat) (Z : List Nat), l.drop (l.takeWhile p).length = z :: Z → p z = false
  | [], z, Z, h => by simp at h
  | c :: l, z, Z, h => by
    by_cases hc : p c = true
    · simp only [List.takeWhile_cons_of_pos hc, List.length_cons, List.drop_succ_cons] at h
      exact takeWhile_rest p l z Z h
    · simp only [List.takeWhile_cons_of_neg hc, List.length_nil, List.drop_zero, List.cons.injEq] at h
      obtain ⟨rfl, _⟩ := h
      simpa using hc
theorem takeWhile_cons_take {p : Nat → Bool} {c : Nat} {r : List Nat} (h : p c = true) (Z : List Nat) : ∃ r', (c :: r).takeWhile p ++ Z = c :: r' := ⟨r.takeWhile p ++ Z, by simp [List.takeWhile_cons_of_pos h]⟩
/-- a token is the same, whatever stands behind it that may -/
theorem tk_cut {c : Nat} {r : List Nat} {k : Int} {x : List UInt8} {m : Nat} (h : tk (c :: r) = .ok k x m) (Z : List Nat) (hZ : ∀ z, Z.head? = some z → good k z) : tk ((c :: r).take m ++ Z) = .ok k x m := by
  simp only [tk] at h
  split at h
  · rename_i h2
    have hp : part c = true := by unfold part; simp [h2]
    split at h
    · cases h
    · rename_i h16
      cases h
      rw [takeWhile_take]
      obtain ⟨r', e⟩ := takeWhile_cons_take (r := r) hp Z
      have hw := takeWhile_stop (p := part) (c :: r) Z (fun z hz => (hZ z hz).1 rfl)
      rw [e] at hw ⊢
      simp only [tk, h2, if_true, hw, if_neg h16]
  · rename_i h2
    split at h
    · rename_i h3
      have hp : digit c = true := by unfold digit; simp [h3]
      split at h
      · cases h
      · rename_i hb
        cases h
        rw [takeWhile_take]
        obtain ⟨r', e⟩ := takeWhile_cons_take (r := r) hp Z
        have hw := takeWhile_stop (p := digit) (c :: r) Z (fun z hz => (hZ z hz).2 rfl)
        rw [e] at hw ⊢
        simp only [tk]
        rw [if_neg h2, if_pos h3, hw, if_neg hb]
    · rename_i h3
      split at h
      · rename_i h5
        split at h
        · rename_i e
          cases h
          simp only [List.take_succ_cons, List.take_zero, List.cons_append, List.nil_append, tk]
          rw [if_neg h2, if_neg h3, if_pos h5, if_pos e]
        · split at h
          · rename_i e0 e
            cases h
            simp only [List.take_succ_cons, List.take_zero, List.cons_append, List.nil_append, tk]
            rw [if_neg h2, if_neg h3, if_pos h5, if_neg e0, if_pos e]
          · split at h
            · rename_i e1 e2 e3
              split at h
              · rename_i e4
                cases h
                cases r with
                | nil => simp at e4
                | cons d r =>
                  simp at e4; subst e4
                  simp only [List.take_succ_cons, List.take_zero, List.cons_append, List.nil_append, tk, List.head?_cons]
                  rw [if_neg h2, if_neg h3, if_pos h5, if_neg e1, if_neg e2, if_pos e3, if_pos trivial]
              · cases h
            · rename_i e1 e2 e3
              cases h
              simp only [List.take_succ_cons, List.take_zero, List.cons_append, List.nil_append, tk]
              rw [if_neg h2, if_neg h3, if_pos h5, if_neg e1, if_neg e2, if_neg e3]
      · cases h
/-- what stands behind a token may stand there -/
theorem tk_rest {c : Nat} {r : List Nat} {k : Int} {x : List UInt8} {m : Nat} (h : tk (c :: r) = .ok k x m) (z : Nat) (hz : ((c :: r).drop m).head? = some z) : good k z := by
  have hz' : ∃ Z, (c :: r).drop m = z :: Z := by
    cases hd : (c :: r).drop m with
    | nil => rw [hd] at hz; cases hz
    | cons a Z => rw [hd] at hz; simp at hz; subst hz; exact ⟨Z, rfl⟩
  obtain ⟨Z, hd⟩ := hz'
  simp only [tk] at h
  split at h
  · split at h
    · cases h
    · cases h
      exact good_of (takeWhile_rest part _ z Z hd) _
  · split at h
    · split at h
      · cases h
      · cases h
        exact ⟨fun e => by omega, fun _ => takeWhile_rest digit _ z Z hd⟩
    · have : k = 3 := by
        repeat' split at h
        all_goals first | (cases h; rfl) | cases h
      subst this
      exact ⟨fun e => by omega, fun e => by omega⟩
/-- what is refused is refused, whatever stands behind it that is no part -/
theorem tk_bad_cut {c : Nat} {r : List Nat} {e : Int} (h : tk (c :: r) = .bad e) (z : Nat) (Z : List Nat) (hz : part z = false) (h61 : z ≠ 61) : tk (c :: (r ++ z :: Z)) = .bad e := by
  have tw : ∀ p : Nat → Bool, p z = false → (c :: (r ++ z :: Z)).takeWhile p = (c :: r).takeWhile p := fun p hp => by
    have : ∀ l : List Nat, (l ++ z :: Z).takeWhile p = l.takeWhile p := by
      intro l
      induction l with
      | nil => simp [hp]
      | cons a l ih =>
        by_cases ha : p a = true
        · simp [List.takeWhile_cons_of_pos ha, ih]
        · simp [List.takeWhile_cons_of_neg ha]
    exact this (c :: r)
  have hd := part_digit hz
  simp only [tk] at h ⊢
  rw [tw part hz, tw digit hd]
  by_cases h2 : cls c = 2
  · rw [if_pos h2] at h ⊢; exact h
  · rw [if_neg h2] at h ⊢
    by_cases h3 : cls c = 3
    · rw [if_pos h3] at h ⊢; exact h
    · rw [if_neg h3] at h ⊢
      by_cases h5 : cls c = 5
      · rw [if_pos h5] at h ⊢
        by_cases e1 : c = 8788
        · rw [if_pos e1] at h ⊢; exact h
        · rw [if_neg e1] at h ⊢
          by_cases e2 : c = 8800
          · rw [if_pos e2] at h ⊢; exact h
          · rw [if_neg e2] at h ⊢
            by_cases e3 : c = 58 ∨ c = 33
            · rw [if_pos e3] at h ⊢
              have : (r ++ z :: Z).head? = some 61 ↔ r.head? = some 61 := by
                cases r with
                | nil => simp [h61]
                | cons a r => simp
              simp only [this]
              exact h
            · rw [if_neg e3] at h ⊢; exact h
      · rw [if_neg h5] at h ⊢; exact h
/-! chains of tokens -/
inductive SC : List Nat → List Nat → List Tok → Prop where
  | done {pre cs : List Nat} (h : skipC false cs = []) : SC pre cs [⟨0, [], along start (pre ++ cs)⟩]
  | step {pre cs : List Nat} {c : Nat} {r : List Nat} {k : Int} {x : List UInt8} {m : Nat} {l : List Tok} (h : skipC false cs = c :: r) (ht : tk (c :: r) = .ok k x m)
      (hl : SC (pre ++ skipped cs ++ (c :: r).take m) ((c :: r).drop m) l) : SC pre cs (⟨k, x, along start (pre ++ skipped cs)⟩ :: l)
theorem sc_of_scan : ∀ (n : Nat) (brk : Bool) (pre cs : List Nat) (l : List Tok), cs.length < n → scan brk n pre cs = .ok l → brk = false ∧ SC pre cs l
  | 0, brk, pre, cs, l, hn, h => by omega
  | n + 1, brk, pre, cs, l, hn, h => by
    simp only [scan] at h
    split at h
    · rename_i hs
      cases brk with
      | true => simp at h
      | false => simp at h; subst h; exact ⟨rfl, .done hs⟩
    · rename_i c r hs
      split at h
      · cases h
      · rename_i k x m ht
        cases hR : scan brk n (pre ++ skipped cs ++ (c :: r).take m) ((c :: r).drop m) with
        | bad e p => rw [hR] at h; cases h
        | ok l' =>
          rw [hR] at h
          simp only [Res.cons, Res.ok.injEq] at h
          subst h
          have hm := (tk_ok ht).1
          have hle := skipC_le cs false
          rw [hs] at hle
          simp at hle
          obtain ⟨h1, h2⟩ := sc_of_scan n brk _ _ l' (by simp; omega) hR
          exact ⟨h1, .step hs ht h2⟩
theorem scan_of_sc {pre cs : List Nat} {l : List Tok} (h : SC pre cs l) : ∀ n, cs.length < n → scan false n pre cs = .ok l := by
  induction h with
  | done h =>
    intro n hn
    obtain ⟨n, rfl⟩ : ∃ j, n = j + 1 := ⟨n - 1, by omega⟩
    simp [scan, h]
  | @step pre cs c r k x m l h ht hl ih =>
    intro n hn
    obtain ⟨n, rfl⟩ : ∃ j, n = j + 1 := ⟨n - 1, by omega⟩
    have hle := skipC_le cs false
    rw [h] at hle
    simp at hle
    simp only [scan, h, ht]
    rw [ih n ?_]
    · rfl
    · have hm := (tk_ok ht).1
      simp; omega
end Go.Proofs.YtlklijpjacmgpaaGreatDoor

namespace Go.Proofs.YtlklijpjacmgpaaGreatDoor
open Go
set_option linter.unusedVariables false
set_option linter.unusedSimpArgs false

theorem skipped_app {cs : List Nat} {c : Nat} {r : List Nat} (h : skipC false cs = c :: r) (X : List Nat) : skipped (cs ++ X) = skipped cs := by
  have h1 := skipped_append cs
  have h2 := skipped_append (cs ++ X)
  rw [skipC_app cs false c r X h] at h2
  rw [h] at h1
  have : skipped (cs ++ X) ++ (c :: (r ++ X)) = skipped cs ++ (c :: (r ++ X)) := by
    rw [h2]
    conv => lhs; rw [← h1]
    simp
  exact List.append_cancel_right this
/-- what is refused stays refused -/
theorem scan_first : ∀ (n : Nat) (pre cs : List Nat) (e : Int) (p : Pl), cs.length < n → scan false n pre cs = .bad e p →
    ∀ (n' : Nat) (brk : Bool) (X : List Nat), (∀ z, X.head? = some z → z = 10) → X ≠ [] → cs.length < n' → scan brk n' pre (cs ++ X) = .bad e p
  | 0, pre, cs, e, p, hn, h, n', brk, X, hX, hX0, hn' => by omega
  | n + 1, pre, cs, e, p, hn, h, n', brk, X, hX, hX0, hn' => by
    obtain ⟨n', rfl⟩ : ∃ j, n' = j + 1 := ⟨n' - 1, by omega⟩
    obtain ⟨Z, rfl⟩ : ∃ Z, X = 10 :: Z := by
      cases X with
      | nil => exact absurd rfl hX0
      | cons z Z => exact ⟨Z, by rw [hX z rfl]⟩
    have hp10 : part 10 = false := by decide
    simp only [scan] at h
    split at h
    · simp at h
    · rename_i c r hs
      have hs' := skipC_app cs false c r (10 :: Z) hs
      have hk := skipped_app hs (10 :: Z)
      have hle := skipC_le cs false
      rw [hs] at hle
      simp at hle
      split at h
      · rename_i e1 ht
        have ht' := tk_bad_cut ht 10 Z hp10 (by omega)
        simp only [scan, hs', ht', hk]
        exact h
      · rename_i k x m ht
        have hm := tk_ok ht
        have hmle := hm.2.1
        simp at hmle
        have ht' : tk (c :: (r ++ 10 :: Z)) = .ok k x m := by
          have hz : ∀ z, ((c :: r).drop m ++ 10 :: Z).head? = some z → good k z := by
            intro z hz
            cases hd : (c :: r).drop m with
            | nil => rw [hd] at hz; simp at hz; subst hz; exact good_of hp10 k
            | cons a D => rw [hd] at hz; simp at hz; subst hz; exact tk_rest ht a (by rw [hd]; rfl)
          have := tk_cut ht ((c :: r).drop m ++ 10 :: Z) hz
          rw [← List.append_assoc, List.take_append_drop] at this
          exact this
        simp only [scan, hs', ht', hk]
        cases hR : scan false n (pre ++ skipped cs ++ (c :: r).take m) ((c :: r).drop m) with
        | ok l' => rw [hR] at h; cases h
        | bad e1 p1 =>
          rw [hR] at h
          simp only [Res.cons] at h
          have ih := scan_first n _ _ e1 p1 (by simp; omega) hR n' brk (10 :: Z) hX hX0 (by simp; omega)
          have e2 : (c :: (r ++ 10 :: Z)).take m = (c :: r).take m := by rw [← List.cons_append, List.take_append_of_le_length (by simpa using hmle)]
          have e3 : (c :: (r ++ 10 :: Z)).drop m = (c :: r).drop m ++ 10 :: Z := by rw [← List.cons_append, List.drop_append_of_le_length (by simpa using hmle)]
          rw [e2, e3, ih]
          simpa [Res.cons] using h
theorem txt_join {l m : List UInt8} {cs ds : List Nat} {t : List UInt8} (h : Txt l cs []) (k : Txt m ds t) : Txt (l ++ m) (cs ++ ds) t :=
  ⟨by rw [h.eq, k.eq]; simp, fun c hc => (List.mem_append.1 hc).elim (h.ok c) (k.ok c), k.stop⟩
theorem txt_ascii {b : UInt8} (hb : b.toNat < 128) : Txt [b] [b.toNat] [] := by
  refine ⟨by simp [enc, hb], fun c hc => ?_, rfl⟩
  simp at hc; subst hc; exact okc_iff.2 (by omega)
/-- what Scan refuses it refuses with a line end and anything behind it -/
theorem scanS_first {l m : List UInt8} (hlen : l.length + m.length + 1 ≤ 4096) {e : Int} {p : Pl} (h : scanS l = .bad e p) : scanS (l ++ 10 :: m) = .bad e p := by
  have T := txt_of l
  rw [scanS_eq T (by omega)] at h
  unfold scanOf at h
  by_cases ht : tlOf l = []
  · rw [ht] at T h
    obtain ⟨ds, t, T2⟩ := Txt.ex m
    have T3 : Txt (l ++ 10 :: m) (csOf l ++ 10 :: ds) t := by
      have := txt_join T (txt_join (txt_ascii (b := 10) (by decide)) T2)
      simpa using this
    rw [scanS_eq T3 (by simp; omega)]
    unfold scanOf
    exact scan_first _ _ _ _ _ (by omega) h _ _ (10 :: ds) (by simp) (by simp) (by simp; omega)
  · have T3 : Txt (l ++ 10 :: m) (csOf l) (tlOf l ++ 10 :: m) := ⟨by
      have e := T.eq
      generalize csOf l = a at *
      generalize tlOf l = b at *
      rw [e]; simp, T.ok, dec_stop ht T.stop (by decide) m⟩
    rw [scanS_eq T3 (by simp; omega)]
    unfold scanOf
    have e1 : (tlOf l).isEmpty = false := by cases h : tlOf l with | nil => exact absurd h ht | cons _ _ => rfl
    have e2 : (tlOf l ++ 10 :: m).isEmpty = false := by simp
    rw [e1] at h
    rw [e2]
    exact h
end Go.Proofs.YtlklijpjacmgpaaGreatDoor

namespace Go.Proofs.YtlklijpjacmgpaaGreatDoor
open Go
set_option linter.unusedVariables false
set_option linter.unusedSimpArgs false

theorem sc_pre {pre cs : List Nat} {l : List Tok} (h : SC pre cs l) : ∀ pre', ∃ l', SC pre' cs l' ∧ l'.map Tok.kt = l.map Tok.kt := by
  induction h with
  | done h => exact fun pre' => ⟨_, .done h, rfl⟩
  | step h ht hl ih =>
    intro pre'
    obtain ⟨l', h1, h2⟩ := ih _
    exact ⟨_, .step h ht h1, by simp [h2, Tok.kt]⟩
/-- what is skipped alike is read alike -/
theorem sc_skip {pre cs : List Nat} {l : List Tok} (h : SC pre cs l) {cs' : List Nat} (hs : skipC false cs' = skipC false cs) (pre' : List Nat) : ∃ l', SC pre' cs' l' ∧ l'.map Tok.kt = l.map Tok.kt := by
  cases h with
  | done h => exact ⟨_, .done (hs.trans h), rfl⟩
  | step h ht hl =>
    obtain ⟨l', h1, h2⟩ := sc_pre hl _
    exact ⟨_, .step (hs.trans h) ht h1, by simp [h2, Tok.kt]⟩
theorem skipC_blank {b : Nat} (hb : cls b = 1) (r : List Nat) : skipC false (b :: r) = skipC false r := by
  simp only [skipC]
  split
  · rfl
  · rw [if_neg (by omega)]
    simp [hb]
theorem part_blank {b : Nat} (hb : cls b = 1) : part b = false := by simp [part, hb]
/-- code points that are read as a token -/
structure Piece (k : Int) (x : List UInt8) (X : List Nat) : Prop where
  head : ∃ c r, X = c :: r ∧ tokHead c
  ok : ∀ d ∈ X, okc d = true
  tk : ∀ Z, (∀ z, Z.head? = some z → part z = false) → tk (X ++ Z) = .ok k x X.length
theorem sc_pieces {b : Nat} (hb : cls b = 1) : ∀ (L : List ((Int × List UInt8) × List Nat)), (∀ q ∈ L, Piece q.1.1 q.1.2 q.2) → ∀ (W : List Nat), skipC false W = [] → ∀ pre : List Nat,
    ∃ l, SC pre ((L.flatMap fun q => q.2 ++ [b]) ++ W) l ∧ l.map Tok.kt = L.map (·.1) ++ [(0, [])]
  | [], h, W, hW, pre => ⟨_, .done (by simpa using hW), rfl⟩
  | q :: L, h, W, hW, pre => by
    obtain ⟨⟨c, r, hX, hc⟩, hok, htk⟩ := h q (by simp)
    have e : ((q :: L).flatMap fun q => q.2 ++ [b]) ++ W = q.2 ++ (b :: ((L.flatMap fun q => q.2 ++ [b]) ++ W)) := by simp
    rw [e]
    have ht := htk (b :: ((L.flatMap fun q => q.2 ++ [b]) ++ W)) (fun z hz => by simp at hz; subst hz; exact part_blank hb)
    have hs : skipC false (q.2 ++ (b :: ((L.flatMap fun q => q.2 ++ [b]) ++ W))) = q.2 ++ (b :: ((L.flatMap fun q => q.2 ++ [b]) ++ W)) := by rw [hX]; exact skipC_head hc _
    obtain ⟨l1, h1, h2⟩ := sc_pieces hb L (fun q hq => h q (by simp [hq])) W hW []
    obtain ⟨l2, h3, h4⟩ := sc_skip h1 (skipC_blank hb _) (pre ++ skipped (q.2 ++ (b :: ((L.flatMap fun q => q.2 ++ [b]) ++ W))) ++ (q.2 ++ (b :: ((L.flatMap fun q => q.2 ++ [b]) ++ W))).take q.2.length)
    generalize hY : b :: ((L.flatMap fun q => q.2 ++ [b]) ++ W) = Y at *
    have hd : (q.2 ++ Y).drop q.2.length = Y := List.drop_left
    refine ⟨⟨q.1.1, q.1.2, along start (pre ++ skipped (q.2 ++ Y))⟩ :: l2, ?_, ?_⟩
    · rw [hX] at hs ht h3 hd ⊢
      refine SC.step (c := c) (r := r ++ Y) hs ht ?_
      change SC _ (((c :: r) ++ Y).drop (c :: r).length) l2
      rw [hd]
      exact h3
    · simp [Tok.kt, h4, h2]
/-! the pieces of tokens -/
theorem flat_asc : ∀ (l : List UInt8), (∀ b ∈ l, b.toNat < 128) → (l.map UInt8.toNat).flatMap enc = l
  | [], _ => rfl
  | b :: l, h => by
    have hb := h b (by simp)
    simp [enc, hb, flat_asc l (fun c hc => h c (by simp [hc]))]
theorem cls_letter {c : Nat} (h : cls c = 2) : tokHead c := tokHead_of (Or.inl h)
theorem dig_code {c : Nat} : cls c = 3 ↔ 48 ≤ c ∧ c ≤ 57 := by
  unfold cls
  constructor
  · intro h
    by_cases hd : isDigit c = true
    · simp [isDigit] at hd; omega
    · exfalso
      repeat' split at h
      all_goals first | omega | exact hd ‹_›
  · intro h
    have h1 : isBlank c = false := by simp [isBlank]; omega
    have h2 : isLetter c = false := by simp [isLetter]; omega
    have h3 : isDigit c = true := by simp [isDigit]; omega
    simp [h1, h2, h3]
theorem takeWhile_all {p : Nat → Bool} : ∀ (l Z : List Nat), (∀ c ∈ l, p c = true) → (∀ z, Z.head? = some z → p z = false) → (l ++ Z).takeWhile p = l
  | [], Z, h, hZ => by
    cases Z with
    | nil => rfl
    | cons z Z => simp [hZ z rfl]
  | c :: l, Z, h, hZ => by
    simp [h c (by simp), takeWhile_all l Z (fun d hd => h d (by simp [hd])) hZ]
theorem piece_dec {v : Nat} (hv : v < 2 ^ 1024) : Piece 2 (decText v) ((decText v).map UInt8.toNat) := by
  have hc := decText_codes v
  have hne := decText_ne v
  have hall : ∀ c ∈ (decText v).map UInt8.toNat, 48 ≤ c ∧ c ≤ 57 := by
    intro c h; rw [List.mem_map] at h; obtain ⟨b, hb, rfl⟩ := h; exact hc b hb
  obtain ⟨c, r, hX⟩ : ∃ c r, (decText v).map UInt8.toNat = c :: r := by
    cases h : decText v with
    | nil => exact absurd h hne
    | cons b l => exact ⟨b.toNat, l.map UInt8.toNat, rfl⟩
  have h3 : cls c = 3 := dig_code.2 (hall c (by rw [hX]; simp))
  refine ⟨⟨c, r, hX, tokHead_of (Or.inr (Or.inl h3))⟩, fun d hd => okc_iff.2 (by have := hall d hd; omega), fun Z hZ => ?_⟩
  have hw : ((decText v).map UInt8.toNat ++ Z).takeWhile digit = (decText v).map UInt8.toNat :=
    takeWhile_all _ Z (fun d hd => by have := dig_code.2 (hall d hd); simp [digit, this]) (fun z hz => part_digit (hZ z hz))
  have hv2 := digVal_decText v
  rw [hX] at hw hv2 ⊢
  rw [List.cons_append] at hw ⊢
  simp only [tk]
  rw [if_neg (by omega), if_pos h3, hw, if_neg (by rw [hv2]; omega), hv2]
theorem sign_codes {c : Nat} (h : cls c = 5) : c = 43 ∨ c = 45 ∨ c = 42 ∨ c = 47 ∨ c = 37 ∨ c = 40 ∨ c = 41 ∨ c = 123 ∨ c = 125 ∨ c = 44 ∨ c = 59 ∨ c = 58 ∨ c = 61 ∨ c = 33 ∨ c = 63 ∨ c = 64 ∨ c = 183 ∨ c = 215 ∨ c = 247 ∨ c = 8722 ∨ c = 8788 ∨ c = 8800 := by
  unfold cls at h
  repeat' split at h
  all_goals first | omega | skip
  rename_i h5
  simp [isSign] at h5
  omega
theorem piece_one {c : Nat} (h5 : cls c = 5) (h1 : c ≠ 8788) (h2 : c ≠ 8800) (h3 : ¬ (c = 58 ∨ c = 33)) : Piece 3 [UInt8.ofNat (fold c).toNat] [c] := by
  refine ⟨⟨c, [], rfl, tokHead_of (Or.inr (Or.inr h5))⟩, fun d hd => ?_, fun Z hZ => ?_⟩
  · simp at hd; subst hd
    have := sign_codes h5
    exact okc_iff.2 (by omega)
  · simp only [List.cons_append, List.nil_append, tk]
    rw [if_neg (by omega), if_neg (by omega), if_pos h5, if_neg h1, if_neg h2, if_neg h3]
    rfl
theorem piece_two {c : Nat} (h : c = 58 ∨ c = 33) : Piece 3 [UInt8.ofNat c, 61] [c, 61] := by
  have h5 : cls c = 5 := by rcases h with rfl | rfl <;> decide
  refine ⟨⟨c, [61], rfl, tokHead_of (Or.inr (Or.inr h5))⟩, fun d hd => ?_, fun Z hZ => ?_⟩
  · simp at hd; exact okc_iff.2 (by omega)
  · simp only [List.cons_append, List.nil_append, tk]
    rw [if_neg (by omega), if_neg (by omega), if_pos h5, if_neg (by omega), if_neg (by omega), if_pos h, if_pos (show (61 :: Z).head? = some 61 from rfl)]
    rfl
theorem piece_gets : Piece 3 [58, 61] [8788] := by
  refine ⟨⟨8788, [], rfl, tokHead_of (Or.inr (Or.inr (by decide)))⟩, fun d hd => ?_, fun Z hZ => ?_⟩
  · simp at hd; subst hd; decide
  · have h5 : cls (8788 : Nat) = 5 := by decide
    simp only [List.cons_append, List.nil_append, tk]
    rw [if_neg (by omega), if_neg (by omega), if_pos h5, if_pos trivial]
    rfl
theorem piece_unlike : Piece 3 [33, 61] [8800] := by
  refine ⟨⟨8800, [], rfl, tokHead_of (Or.inr (Or.inr (by decide)))⟩, fun d hd => ?_, fun Z hZ => ?_⟩
  · simp at hd; subst hd; decide
  · have h5 : cls (8800 : Nat) = 5 := by decide
    simp only [List.cons_append, List.nil_append, tk]
    rw [if_neg (by omega), if_neg (by omega), if_pos h5, if_neg (by omega), if_pos trivial]
    rfl
/-- the texts of signs -/
def signTexts : List (List UInt8) := [[43], [45], [42], [47], [37], [40], [41], [123], [125], [44], [59], [61], [63], [64], [58, 61], [33, 61]]
theorem tk_kind {c : Nat} {r : List Nat} {k : Int} {x : List UInt8} {m : Nat} (h : tk (c :: r) = .ok k x m) :
    (k = 1 ∧ x = ((c :: r).take m).flatMap enc ∧ cls c = 2) ∨ (k = 2 ∧ ∃ v, v < 2 ^ 1024 ∧ x = decText v) ∨ (k = 3 ∧ x ∈ signTexts) := by
  simp only [tk] at h
  by_cases h2 : cls c = 2
  · rw [if_pos h2] at h
    split at h
    · cases h
    · cases h; exact Or.inl ⟨rfl, by rw [takeWhile_take], h2⟩
  · rw [if_neg h2] at h
    by_cases h3 : cls c = 3
    · rw [if_pos h3] at h
      split at h
      · cases h
      · rename_i hb
        cases h; exact Or.inr (Or.inl ⟨rfl, _, Nat.lt_of_not_le hb, rfl⟩)
    · rw [if_neg h3] at h
      by_cases h5 : cls c = 5
      · rw [if_pos h5] at h
        refine Or.inr (Or.inr ?_)
        have hc := sign_codes h5
        by_cases e1 : c = 8788
        · rw [if_pos e1] at h; cases h; exact ⟨rfl, by decide⟩
        · rw [if_neg e1] at h
          by_cases e2 : c = 8800
          · rw [if_pos e2] at h; cases h; exact ⟨rfl, by decide⟩
          · rw [if_neg e2] at h
            by_cases e3 : c = 58 ∨ c = 33
            · rw [if_pos e3] at h
              split at h
              · cases h; exact ⟨rfl, by rcases e3 with rfl | rfl <;> decide⟩
              · cases h
            · rw [if_neg e3] at h
              cases h
              refine ⟨rfl, ?_⟩
              rcases hc with rfl | rfl | rfl | rfl | rfl | rfl | rfl | rfl | rfl | rfl | rfl | rfl | rfl | rfl | rfl | rfl | rfl | rfl | rfl | rfl | rfl | rfl
              all_goals first | decide | (exfalso; omega)
      · rw [if_neg h5] at h; cases h
theorem piece_sign {x : List UInt8} (h : x ∈ signTexts) : Piece 3 x (x.map UInt8.toNat) ∧ (x.map UInt8.toNat).flatMap enc = x := by
  simp only [signTexts, List.mem_cons, List.not_mem_nil, or_false] at h
  rcases h with rfl | rfl | rfl | rfl | rfl | rfl | rfl | rfl | rfl | rfl | rfl | rfl | rfl | rfl | rfl | rfl
  · exact ⟨piece_one (c := 43) (by decide) (by decide) (by decide) (by decide), by decide⟩
  · exact ⟨piece_one (c := 45) (by decide) (by decide) (by decide) (by decide), by decide⟩
  · exact ⟨piece_one (c := 42) (by decide) (by decide) (by decide) (by decide), by decide⟩
  · exact ⟨piece_one (c := 47) (by decide) (by decide) (by decide) (by decide), by decide⟩
  · exact ⟨piece_one (c := 37) (by decide) (by decide) (by decide) (by decide), by decide⟩
  · exact ⟨piece_one (c := 40) (by decide) (by decide) (by decide) (by decide), by decide⟩
  · exact ⟨piece_one (c := 41) (by decide) (by decide) (by decide) (by decide), by decide⟩
  · exact ⟨piece_one (c := 123) (by decide) (by decide) (by decide) (by decide), by decide⟩
  · exact ⟨piece_one (c := 125) (by decide) (by decide) (by decide) (by decide), by decide⟩
  · exact ⟨piece_one (c := 44) (by decide) (by decide) (by decide) (by decide), by decide⟩
  · exact ⟨piece_one (c := 59) (by decide) (by decide) (by decide) (by decide), by decide⟩
  · exact ⟨piece_one (c := 61) (by decide) (by decide) (by decide) (by decide), by decide⟩
  · exact ⟨piece_one (c := 63) (by decide) (by decide) (by decide) (by decide), by decide⟩
  · exact ⟨piece_one (c := 64) (by decide) (by decide) (by decide) (by decide), by decide⟩
  · exact ⟨piece_two (c := 58) (Or.inl rfl), by decide⟩
  · exact ⟨piece_two (c := 33) (Or.inr rfl), by decide⟩
theorem piece_name {c : Nat} {r : List Nat} {x : List UInt8} {m : Nat} (h : tk (c :: r) = .ok 1 x m) (h2 : cls c = 2) (hok : ∀ d ∈ c :: r, okc d = true) : Piece 1 x ((c :: r).take m) := by
  obtain ⟨m1, m2, _⟩ := tk_ok h
  obtain ⟨m, rfl⟩ : ∃ j, m = j + 1 := ⟨m - 1, by omega⟩
  refine ⟨⟨c, r.take m, by simp, tokHead_of (Or.inl h2)⟩, fun d hd => hok d (List.mem_of_mem_take hd), fun Z hZ => ?_⟩
  have := tk_cut h Z (fun z hz => good_of (hZ z hz) _)
  rw [this, List.length_take, Nat.min_eq_left m2]
/-- a token's own text is read as it -/
theorem tk_again {c : Nat} {r : List Nat} {k : Int} {x : List UInt8} {m : Nat} (h : tk (c :: r) = .ok k x m) (hok : ∀ d ∈ c :: r, okc d = true) : ∃ X, Piece k x X ∧ X.flatMap enc = x := by
  rcases tk_kind h with ⟨rfl, hx, h2⟩ | ⟨rfl, v, hv, rfl⟩ | ⟨rfl, hx⟩
  · exact ⟨_, piece_name h h2 hok, hx.symm⟩
  · exact ⟨_, piece_dec hv, flat_asc _ (fun b hb => by have := decText_codes v b hb; omega)⟩
  · exact ⟨_, piece_sign hx⟩
/-- the other way to write a sign -/
def alt (odd : Bool) (k : Int) (x : List UInt8) : List UInt8 :=
  if k = 3 then
    if x = [45] then enc 8722 else if x = [42] then (if odd then enc 183 else enc 215) else if x = [47] then enc 247 else if x = [58, 61] then enc 8788 else if x = [33, 61] then enc 8800 else x
  else x
theorem tk_alt {c : Nat} {r : List Nat} {k : Int} {x : List UInt8} {m : Nat} (h : tk (c :: r) = .ok k x m) (hok : ∀ d ∈ c :: r, okc d = true) (odd : Bool) : ∃ X, Piece k x X ∧ X.flatMap enc = alt odd k x := by
  obtain ⟨X, hX, hx⟩ := tk_again h hok
  unfold alt
  by_cases hk : k = 3
  · subst hk
    rw [if_pos rfl]
    split
    · rename_i e; subst e; exact ⟨[8722], piece_one (c := 8722) (by decide) (by decide) (by decide) (by decide), by simp⟩
    · split
      · rename_i e; subst e
        cases odd with
        | true => exact ⟨[183], piece_one (c := 183) (by decide) (by decide) (by decide) (by decide), by simp⟩
        | false => exact ⟨[215], piece_one (c := 215) (by decide) (by decide) (by decide) (by decide), by simp⟩
      · split
        · rename_i e; subst e; exact ⟨[247], piece_one (c := 247) (by decide) (by decide) (by decide) (by decide), by simp⟩
        · split
          · rename_i e; subst e; exact ⟨[8788], piece_gets, by simp⟩
          · split
            · rename_i e; subst e; exact ⟨[8800], piece_unlike, by simp⟩
            · exact ⟨X, hX, hx⟩
  · rw [if_neg hk]; exact ⟨X, hX, hx⟩
end Go.Proofs.YtlklijpjacmgpaaGreatDoor

namespace Go.Proofs.YtlklijpjacmgpaaGreatDoor
open Go
set_option linter.unusedVariables false
set_option linter.unusedSimpArgs false

theorem scanS_ok {l : List UInt8} {toks : List Tok} (h : scanS l = .ok toks) : l.length ≤ 4096 ∧ tlOf l = [] ∧ SC [] (csOf l) toks := by
  unfold scanS at h
  split at h
  · cases h
  · rename_i hl
    unfold scanOf at h
    obtain ⟨h1, h2⟩ := sc_of_scan _ _ _ _ _ (by omega) h
    exact ⟨by omega, by simpa using h1, h2⟩
theorem scanS_mk {l : List UInt8} {cs : List Nat} {toks : List Tok} (hl : l.length ≤ 4096) (he : l = cs.flatMap enc) (hok : ∀ c ∈ cs, okc c = true) (h : SC [] cs toks) : scanS l = .ok toks := by
  have T : Txt l cs [] := ⟨by simp [he], hok, rfl⟩
  rw [scanS_eq T hl]
  exact scan_of_sc h _ (by omega)
/-- with other signs -/
def signsText : Nat → List Tok → List UInt8
  | _, [] => []
  | i, x :: r => alt (i % 2 == 1) x.kind x.text ++ [194, 160] ++ signsText (i + 1) r
def joinT : List Tok → List UInt8
  | [] => []
  | [x] => x.text
  | x :: y :: r => x.text ++ 32 :: joinT (y :: r)
theorem drop_ok {cs : List Nat} (h : ∀ c ∈ cs, okc c = true) {c : Nat} {r : List Nat} (hs : skipC false cs = c :: r) : ∀ d ∈ c :: r, okc d = true := by
  intro d hd
  obtain ⟨m, hm⟩ := skipC_suffix cs false
  exact h d (by rw [hm, hs]; exact List.mem_append_right _ hd)
theorem sc_ne {pre cs : List Nat} {l : List Tok} (h : SC pre cs l) : l ≠ [] := by cases h <;> simp
theorem sc_alts {pre cs : List Nat} {l : List Tok} (h : SC pre cs l) : (∀ c ∈ cs, okc c = true) → ∀ i, ∃ L : List ((Int × List UInt8) × List Nat), (∀ q ∈ L, Piece q.1.1 q.1.2 q.2) ∧ l.map Tok.kt = L.map (·.1) ++ [(0, [])] ∧ signsText i l = (L.flatMap fun q => q.2 ++ [160]).flatMap enc ++ [194, 160] := by
  induction h with
  | done h => exact fun hok i => ⟨[], by simp, rfl, by simp [signsText, alt]⟩
  | @step pre cs c r k x m l h ht hl ih =>
    intro hok i
    have hok2 := drop_ok hok h
    obtain ⟨L, h1, h2, h3⟩ := ih (fun d hd => hok2 d (List.mem_of_mem_drop hd)) (i + 1)
    obtain ⟨X, hX, hx⟩ := tk_alt ht hok2 (i % 2 == 1)
    refine ⟨((k, x), X) :: L, ?_, ?_, ?_⟩
    · intro q hq
      rcases List.mem_cons.1 hq with rfl | hq
      · exact hX
      · exact h1 q hq
    · simp [Tok.kt, h2]
    · have e : enc 160 = [194, 160] := by decide
      simp only [signsText, List.flatMap_cons, List.flatMap_append, List.flatMap_nil, List.append_nil, hx, h3, e]
      simp
theorem sc_joins {pre cs : List Nat} {l : List Tok} (h : SC pre cs l) : (∀ c ∈ cs, okc c = true) → ∃ L : List ((Int × List UInt8) × List Nat), (∀ q ∈ L, Piece q.1.1 q.1.2 q.2) ∧ l.map Tok.kt = L.map (·.1) ++ [(0, [])] ∧ joinT l = (L.flatMap fun q => q.2 ++ [32]).flatMap enc := by
  induction h with
  | done h => exact fun hok => ⟨[], by simp, rfl, by simp [joinT]⟩
  | @step pre cs c r k x m l h ht hl ih =>
    intro hok
    have hok2 := drop_ok hok h
    obtain ⟨L, h1, h2, h3⟩ := ih (fun d hd => hok2 d (List.mem_of_mem_drop hd))
    obtain ⟨X, hX, hx⟩ := tk_again ht hok2
    refine ⟨((k, x), X) :: L, ?_, ?_, ?_⟩
    · intro q hq
      rcases List.mem_cons.1 hq with rfl | hq
      · exact hX
      · exact h1 q hq
    · simp [Tok.kt, h2]
    · have e : enc 32 = [32] := by decide
      obtain ⟨y, r2, hy⟩ : ∃ y r2, l = y :: r2 := by
        cases l with
        | nil => exact absurd rfl (sc_ne hl)
        | cons y r2 => exact ⟨y, r2, rfl⟩
      rw [hy] at h3 ⊢
      simp only [joinT, List.flatMap_cons, List.flatMap_append, List.flatMap_nil, List.append_nil, hx, h3, e]
      simp
theorem flat_okc (L : List ((Int × List UInt8) × List Nat)) (h : ∀ q ∈ L, Piece q.1.1 q.1.2 q.2) {b : Nat} (hb : okc b = true) : ∀ c ∈ (L.flatMap fun q => q.2 ++ [b]), okc c = true := by
  intro c hc
  rw [List.mem_flatMap] at hc
  obtain ⟨q, hq, hc⟩ := hc
  rcases List.mem_append.1 hc with hc | hc
  · exact (h q hq).ok c hc
  · simp at hc; subst hc; exact hb
/-- the law of GlyphSigns -/
theorem signs_law {l : List UInt8} {toks : List Tok} (h : scanS l = .ok toks) (hs : (signsText 0 toks).length ≤ 4096) : ∃ l', scanS (signsText 0 toks) = .ok l' ∧ l'.map Tok.kt = toks.map Tok.kt := by
  obtain ⟨_, h2, h3⟩ := scanS_ok h
  obtain ⟨L, q1, q2, q3⟩ := sc_alts h3 (txt_of l).ok 0
  have hb : cls (160 : Nat) = 1 := by decide
  obtain ⟨l', r1, r2⟩ := sc_pieces (b := 160) hb L q1 [160] (by decide) []
  refine ⟨l', scanS_mk hs ?_ ?_ r1, by rw [r2, q2]⟩
  · rw [q3, List.flatMap_append]
    rfl
  · intro c hc
    rcases List.mem_append.1 hc with hc | hc
    · exact flat_okc L q1 (by decide) c hc
    · simp at hc; subst hc; decide
/-- the first law of GlyphAgain -/
theorem joins_law {l : List UInt8} {toks : List Tok} (h : scanS l = .ok toks) (hs : (joinT toks).length ≤ 4096) : ∃ l', scanS (joinT toks) = .ok l' ∧ l'.map Tok.kt = toks.map Tok.kt := by
  obtain ⟨_, h2, h3⟩ := scanS_ok h
  obtain ⟨L, q1, q2, q3⟩ := sc_joins h3 (txt_of l).ok
  have hb : cls (32 : Nat) = 1 := by decide
  obtain ⟨l', r1, r2⟩ := sc_pieces (b := 32) hb L q1 [] rfl []
  rw [List.append_nil] at r1
  exact ⟨l', scanS_mk hs q3 (flat_okc L q1 (by decide)) r1, by rw [r2, q2]⟩
/-! what is put ahead of a token -/
def Ins (I : List Nat) : Prop := (∀ cm Z, skipC cm (I ++ Z) = skipC false Z) ∧ ∀ Z z, (I ++ Z).head? = some z → part z = false
theorem skipped_past {cs : List Nat} {c : Nat} {r : List Nat} (h : skipC false cs = c :: r) : ∃ cm, ∀ Z, skipC false (skipped cs ++ Z) = skipC cm Z := by
  have h1 := skipped_append cs
  have h2 : skipC false (skipped cs ++ (c :: r)) = c :: r := by
    rw [← h, h1]
  exact skipC_past _ _ false h2 (fun c' r' e => by rw [e]; exact skipC_head (by cases e; exact skipC_tokHead cs false _ _ h) _)
theorem skipped_head {cs : List Nat} {c : Nat} {r : List Nat} (h : skipC false cs = c :: r) (Z : List Nat) : skipC false (skipped cs ++ c :: Z) = c :: Z := by
  have h1 := skipped_append cs
  rw [h] at h1
  have := skipC_app (skipped cs ++ [c]) false c [] Z ?_
  · simpa using this
  · -- c ends what is skipped
    obtain ⟨cm, hcm⟩ := skipped_past h
    have e1 := hcm (c :: r)
    rw [h1, h] at e1
    rw [hcm]
    have hc := skipC_tokHead cs false c r h
    cases cm with
    | false => exact skipC_head hc []
    | true =>
      exfalso
      simp only [skipC, if_neg hc.2.2, if_neg hc.1, if_true] at e1
      have := skipC_le r true
      have := congrArg List.length e1
      simp at this; omega
theorem sc_insert {I : List Nat} (hI : Ins I) {pre cs : List Nat} {l : List Tok} (h : SC pre cs l) : ∀ i (hi : i < l.length), ∃ A B, cs = A ++ B ∧ l[i].at_ = along start (pre ++ A) ∧ ∀ pre', ∃ l', SC pre' (A ++ I ++ B) l' ∧ l'.map Tok.kt = l.map Tok.kt := by
  induction h with
  | @done pre cs h =>
    intro i hi
    obtain rfl : i = 0 := by simpa using hi
    refine ⟨cs, [], by simp, rfl, fun pre' => ⟨_, .done ?_, rfl⟩⟩
    obtain ⟨cm, hcm⟩ := skipC_past cs [] false (by simpa using h) (fun c r e => by cases e)
    rw [List.append_assoc, hcm, hI.1]
    rfl
  | @step pre cs c r k x m l h ht hl ih =>
    intro i hi
    cases i with
    | zero =>
      have h1 := skipped_append cs
      rw [h] at h1
      refine ⟨skipped cs, c :: r, h1.symm, rfl, fun pre' => ?_⟩
      have hs : skipC false (skipped cs ++ I ++ (c :: r)) = skipC false cs := by
        obtain ⟨cm, hcm⟩ := skipped_past h
        rw [List.append_assoc, hcm, hI.1, h]
        exact skipC_head (skipC_tokHead cs false c r h) r
      exact sc_skip (.step h ht hl) hs pre'
    | succ i =>
      obtain ⟨A, B, h1, h2, h3⟩ := ih i (by simpa using hi)
      have h0 := skipped_append cs
      rw [h] at h0
      obtain ⟨m1, m2, _⟩ := tk_ok ht
      obtain ⟨m, rfl⟩ : ∃ j, m = j + 1 := ⟨m - 1, by omega⟩
      refine ⟨skipped cs ++ (c :: r).take (m + 1) ++ A, B, ?_, ?_, fun pre' => ?_⟩
      · rw [List.append_assoc, ← h1, List.append_assoc, List.take_append_drop]; exact h0.symm
      · simp only [List.getElem_cons_succ]
        rw [h2]
        simp [List.append_assoc]
      · have e : skipped cs ++ (c :: r).take (m + 1) ++ A ++ I ++ B = skipped cs ++ (c :: (r.take m ++ (A ++ I ++ B))) := by simp
        rw [e]
        have hs := skipped_head h (r.take m ++ (A ++ I ++ B))
        have hz : ∀ z, (A ++ I ++ B).head? = some z → good k z := by
          intro z hz
          cases A with
          | nil => exact good_of (hI.2 B z (by simpa using hz)) k
          | cons a A =>
            simp at hz; subst hz
            exact tk_rest ht a (by rw [h1]; rfl)
        have ht2 := tk_cut ht (A ++ I ++ B) hz
        obtain ⟨l', r1, r2⟩ := h3 (pre' ++ skipped (skipped cs ++ (c :: (r.take m ++ (A ++ I ++ B)))) ++ (c :: (r.take m ++ (A ++ I ++ B))).take (m + 1))
        refine ⟨⟨k, x, along start (pre' ++ skipped (skipped cs ++ (c :: (r.take m ++ (A ++ I ++ B)))))⟩ :: l', .step hs (by simpa using ht2) ?_, by simp [Tok.kt, r2]⟩
        have hd : (c :: (r.take m ++ (A ++ I ++ B))).drop (m + 1) = A ++ I ++ B := by
          simp only [List.drop_succ_cons]
          rw [List.drop_append_of_le_length (by rw [List.length_take]; simp at m2; omega)]
          simp
        rw [hd]
        exact r1
/-- a blank, a comment, a line's end and blanks -/
def insC (com : List Nat) : List Nat := [9, 32, 35] ++ com ++ [10, 32, 12288]
theorem skip_com : ∀ (com : List Nat), (∀ c ∈ com, 32 ≤ c ∧ c < 127) → ∀ Z, skipC true (com ++ Z) = skipC true Z
  | [], h, Z => rfl
  | c :: com, h, Z => by
    have hc := h c (by simp)
    simp only [List.cons_append, skipC]
    rw [if_neg (by omega)]
    split
    · exact skip_com com (fun d hd => h d (by simp [hd])) Z
    · exact skip_com com (fun d hd => h d (by simp [hd])) Z
theorem ins_com {com : List Nat} (h : ∀ c ∈ com, 32 ≤ c ∧ c < 127) : Ins (insC com) := by
  have c9 : cls 9 = 1 := by decide
  have c32 : cls 32 = 1 := by decide
  have c35 : cls 35 = 6 := by decide
  have cW : cls 12288 = 1 := by decide
  refine ⟨fun cm Z => ?_, fun Z z hz => ?_⟩
  · have e : insC com ++ Z = 9 :: 32 :: 35 :: (com ++ (10 :: 32 :: 12288 :: Z)) := by simp [insC]
    rw [e]
    cases cm
    all_goals simp [skipC, c9, c32, c35, cW, skip_com com h]
  · simp [insC] at hz; subst hz; decide
/-- the second law of GlyphAgain -/
theorem insert_law {l : List UInt8} {toks : List Tok} (h : scanS l = .ok toks) {i : Nat} (hi : i < toks.length) {com : List UInt8} (hc : ∀ b ∈ com, 32 ≤ b.toNat ∧ b.toNat < 127) :
    toks[i].at_.b ≤ l.length ∧ ((l.take toks[i].at_.b ++ ([9, 32, 35] ++ com ++ [10, 32, 227, 128, 128]) ++ l.drop toks[i].at_.b).length ≤ 4096 →
      ∃ l', scanS (l.take toks[i].at_.b ++ ([9, 32, 35] ++ com ++ [10, 32, 227, 128, 128]) ++ l.drop toks[i].at_.b) = .ok l' ∧ l'.map Tok.kt = toks.map Tok.kt) := by
  obtain ⟨_, h2, h3⟩ := scanS_ok h
  have hcc : ∀ c ∈ com.map UInt8.toNat, 32 ≤ c ∧ c < 127 := by
    intro c hc'; rw [List.mem_map] at hc'; obtain ⟨b, hb, rfl⟩ := hc'; exact hc b hb
  obtain ⟨A, B, e1, e2, e3⟩ := sc_insert (ins_com hcc) h3 i hi
  have T := txt_of l
  have hl : l = A.flatMap enc ++ B.flatMap enc := by
    have := T.eq
    rw [h2, List.append_nil, e1, List.flatMap_append] at this
    exact this
  have hb : toks[i].at_.b = (A.flatMap enc).length := by rw [e2, along_b]; simp [start]
  have ht : l.take toks[i].at_.b = A.flatMap enc := by rw [hb, hl, List.take_left]
  have hd : l.drop toks[i].at_.b = B.flatMap enc := by rw [hb, hl, List.drop_left]
  have hI : (insC (com.map UInt8.toNat)).flatMap enc = [9, 32, 35] ++ com ++ [10, 32, 227, 128, 128] := by
    have hf := flat_asc com (fun b hb => by have := hc b hb; omega)
    have e9 : enc 9 = [9] := by decide
    have e32 : enc 32 = [32] := by decide
    have e35 : enc 35 = [35] := by decide
    have e10 : enc 10 = [10] := by decide
    have eW : enc 12288 = [227, 128, 128] := by decide
    simp [insC, List.flatMap_append, hf, e9, e32, e35, e10, eW]
  refine ⟨by rw [hb, hl]; simp, fun hlen => ?_⟩
  obtain ⟨l', r1, r2⟩ := e3 []
  refine ⟨l', scanS_mk hlen ?_ ?_ r1, r2⟩
  · rw [ht, hd, ← hI]; simp
  · intro c hc'
    have hok : ∀ d ∈ A ++ B, okc d = true := by rw [← e1]; exact T.ok
    simp only [List.mem_append] at hc' hok
    rcases hc' with (hc' | hc') | hc'
    · exact hok c (Or.inl hc')
    · simp only [insC, List.mem_append] at hc'
      rcases hc' with (hc' | hc') | hc'
      · simp at hc'; exact okc_iff.2 (by omega)
      · have := hcc c hc'; exact okc_iff.2 (by omega)
      · simp at hc'; exact okc_iff.2 (by omega)
    · exact hok c (Or.inr hc')
end Go.Proofs.YtlklijpjacmgpaaGreatDoor

namespace Go.Proofs.YtlklijpjacmgpaaGreatDoor
open Go.RowKit
set_option linter.unusedVariables false
set_option linter.unusedSimpArgs false
set_option exponentiation.threshold 2000
attribute [local go_sem ↓] Go.wp_at_zero Go.wp_at_succ

theorem scan_bad_ne : ∀ (n : Nat) (brk : Bool) (pre cs : List Nat) (e : Int) (p : Pl), cs.length < n → scan brk n pre cs = .bad e p → e ≠ 0
  | 0, brk, pre, cs, e, p, hn, h => by omega
  | n + 1, brk, pre, cs, e, p, hn, h => by
    simp only [scan] at h
    split at h
    · split at h
      · cases h; omega
      · cases h
    · rename_i c r hs
      have hle := skipC_le cs false
      rw [hs] at hle
      simp at hle
      split at h
      · rename_i e1 ht
        cases h
        have := tk_bad ht
        omega
      · rename_i k x m ht
        have hm := (tk_ok ht).1
        cases hR : scan brk n (pre ++ skipped cs ++ (c :: r).take m) ((c :: r).drop m) with
        | ok l => rw [hR] at h; cases h
        | bad e1 p1 =>
          rw [hR] at h
          simp only [Res.cons, Res.bad.injEq] at h
          rw [← h.1]
          exact scan_bad_ne n brk _ _ e1 p1 (by simp; omega) hR
theorem scanS_bad_ne {l : List UInt8} {e : Int} {p : Pl} (h : scanS l = .bad e p) : e ≠ 0 := by
  unfold scanS at h
  split at h
  · cases h; omega
  · exact scan_bad_ne _ _ _ _ _ _ (by omega) h
theorem tk_text {c : Nat} {r : List Nat} {k : Int} {x : List UInt8} {m : Nat} (h : tk (c :: r) = .ok k x m) : x.length ≤ 1024 := by
  rcases tk_kind h with ⟨rfl, hx, h2⟩ | ⟨rfl, v, hv, rfl⟩ | ⟨rfl, hx⟩
  · simp only [tk] at h
    rw [if_pos h2] at h
    split at h
    · cases h
    · rename_i h16
      cases h
      have : ∀ l : List Nat, (l.flatMap enc).length ≤ 4 * l.length := by
        intro l
        induction l with
        | nil => simp
        | cons d l ih => have := enc_le d; simp only [List.flatMap_cons, List.length_append, List.length_cons]; omega
      have := this ((c :: r).takeWhile part)
      omega
  · unfold decText
    split
    · simp
    · rw [List.length_map, List.length_reverse, dig_len_le (by omega)]
      exact Nat.lt_of_lt_of_le hv (Nat.pow_le_pow_left (by omega) _)
  · simp only [signTexts, List.mem_cons, List.not_mem_nil, or_false] at hx
    rcases hx with rfl | rfl | rfl | rfl | rfl | rfl | rfl | rfl | rfl | rfl | rfl | rfl | rfl | rfl | rfl | rfl <;> simp
theorem sc_text {pre cs : List Nat} {l : List Tok} (h : SC pre cs l) : ∀ x ∈ l, x.text.length ≤ 1024 ∧ (x.kind = 3 → x.text ∈ signTexts) := by
  induction h with
  | done h => intro x hx; simp at hx; subst hx; exact ⟨by simp, fun h => by cases h⟩
  | step h ht hl ih =>
    intro x hx
    rcases List.mem_cons.1 hx with rfl | hx
    · refine ⟨tk_text ht, fun hk => ?_⟩
      rcases tk_kind ht with ⟨h1, _⟩ | ⟨h1, _⟩ | ⟨_, h1⟩
      · simp at hk; omega
      · simp at hk; omega
      · exact h1
    · exact ih x hx
theorem alt_len {odd : Bool} {k : Int} {x : List UInt8} (h : x.length ≤ 1024) : (alt odd k x).length ≤ 1024 := by
  unfold alt
  repeat' split
  all_goals first | exact h | (have := enc_le 8722; have := enc_le 183; have := enc_le 215; have := enc_le 247; have := enc_le 8788; have := enc_le 8800; omega)
theorem signsText_snoc (i : Nat) (l : List Tok) (x : Tok) : signsText i (l ++ [x]) = signsText i l ++ (alt ((i + l.length) % 2 == 1) x.kind x.text ++ [194, 160]) := by
  induction l generalizing i with
  | nil => simp [signsText]
  | cons y l ih => simp only [List.cons_append, signsText, ih, List.length_cons, List.append_assoc]; rw [show i + 1 + l.length = i + (l.length + 1) by omega]
theorem signsText_len (i : Nat) (l : List Tok) (h : ∀ x ∈ l, x.text.length ≤ 1024) : (signsText i l).length ≤ 1026 * l.length := by
  induction l generalizing i with
  | nil => simp [signsText]
  | cons y l ih =>
    have h1 := alt_len (odd := i % 2 == 1) (k := y.kind) (h y (by simp))
    have h2 := ih (i + 1) (fun x hx => h x (by simp [hx]))
    simp only [signsText, List.length_append, List.length_cons, List.length_nil]
    omega
theorem ba3 (a y z : List UInt8) : (⟨a.toArray⟩ : ByteArray) ++ ⟨y.toArray⟩ ++ ⟨z.toArray⟩ = ⟨(a ++ (y ++ z)).toArray⟩ := by
  apply ByteArray.ext
  simp
theorem i64_and_one (a : Nat) (ha : a ≤ 1000000) : bits .and .i64 (a : Int) 1 = ((a % 2 : Nat) : Int) := by
  have h1 : (BitVec.ofInt 64 (a : Int)).toNat = a := by
    rw [BitVec.ofInt_natCast, BitVec.toNat_ofNat]; exact Nat.mod_eq_of_lt (by omega)
  show IntKind.i64.wrap ((BitVec.ofInt 64 (a : Int) &&& BitVec.ofInt 64 1).toNat : Int) = _
  rw [BitVec.toNat_and, h1, show (BitVec.ofInt 64 1).toNat = 1 from rfl, Nat.and_one_is_mod, IntKind.wrap_i64]
  omega
end Go.Proofs.YtlklijpjacmgpaaGreatDoor

namespace Go.Proofs.YtlklijpjacmgpaaGreatDoor
open Go
set_option linter.unusedVariables false
set_option linter.unusedSimpArgs false
set_option exponentiation.threshold 5000

theorem scan_bad1 {brk : Bool} {n : Nat} {pre cs : List Nat} {c : Nat} {r : List Nat} {e : Int} (hs : skipC false cs = c :: r) (ht : tk (c :: r) = .bad e) : scan brk (n + 1) pre cs = .bad e (along start (pre ++ skipped cs)) := by
  simp only [scan]
  rw [hs]
  simp only [ht]
theorem scan_bad2 {brk : Bool} {n : Nat} {pre cs : List Nat} {c : Nat} {r : List Nat} {k : Int} {x : List UInt8} {m : Nat} {e : Int} {p : Pl} (hs : skipC false cs = c :: r) (ht : tk (c :: r) = .ok k x m) (h2 : scan brk n (pre ++ skipped cs ++ (c :: r).take m) ((c :: r).drop m) = .bad e p) : scan brk (n + 1) pre cs = .bad e p := by
  simp only [scan]
  rw [hs]
  simp only [ht, h2]
  rfl
theorem scanS_of {cs : List Nat} (hok : ∀ c ∈ cs, okc c = true) (hl : (cs.flatMap enc).length ≤ 4096) : scanS (cs.flatMap enc) = scan false (cs.length + 1) [] cs :=
  scanS_eq (t := []) ⟨by simp, hok, rfl⟩ hl
theorem flat4 (cs : List Nat) : (cs.flatMap enc).length ≤ 4 * cs.length := by
  induction cs with
  | nil => simp
  | cons c cs ih =>
    have := enc_le c
    simp only [List.flatMap_cons, List.length_append, List.length_cons]
    omega
/-! names -/
theorem letter_head {c : Nat} (h : cls c = 2) (r : List Nat) : skipC false (c :: r) = c :: r := skipC_head (cls_letter h) r
theorem tk_name {c : Nat} {r : List Nat} (hc : cls c = 2) (h : ∀ d ∈ c :: r, part d = true) : tk (c :: r) = if 16 < (c :: r).length then .bad 42 else .ok 1 ((c :: r).flatMap enc) (c :: r).length := by
  have hw : (c :: r).takeWhile part = c :: r := by
    have := takeWhile_all (p := part) (c :: r) [] h (fun z hz => by simp at hz)
    rwa [List.append_nil] at this
  simp only [tk]
  rw [if_pos hc, hw]
theorem name_ok {c : Nat} {r : List Nat} (hc : cls c = 2) (h : ∀ d ∈ c :: r, part d = true) (hok : ∀ d ∈ c :: r, okc d = true) (hl : (c :: r).length ≤ 16) : ∃ p q, scanS ((c :: r).flatMap enc) = .ok [⟨1, (c :: r).flatMap enc, p⟩, ⟨0, [], q⟩] := by
  refine ⟨_, _, scanS_mk (by have := flat4 (c :: r); omega) rfl hok (SC.step (letter_head hc r) (by rw [tk_name hc h, if_neg (by omega)]) (SC.done ?_))⟩
  rw [List.drop_length]
  rfl
theorem name_long {c : Nat} {r : List Nat} (hc : cls c = 2) (h : ∀ d ∈ c :: r, part d = true) (hok : ∀ d ∈ c :: r, okc d = true) (hl : 16 < (c :: r).length) (hm : (c :: r).length ≤ 1000) : ∃ p, scanS ((c :: r).flatMap enc) = .bad 42 p := by
  rw [scanS_of hok (by have := flat4 (c :: r); omega)]
  exact ⟨_, scan_bad1 (letter_head hc r) (by rw [tk_name hc h, if_pos hl])⟩
theorem name_far {c : Nat} {r : List Nat} (hc : cls c = 2) (h : ∀ d ∈ c :: r, part d = true) (hok : ∀ d ∈ c :: r, okc d = true) (hl : 16 < (c :: r).length) (hm : (c :: r).length ≤ 1000) : scanS ((32 :: 32 :: c :: r).flatMap enc) = .bad 42 ⟨2, 2, 1, 3⟩ := by
  have h32 : cls ((32 : Nat) : Int) = 1 := by decide
  have hs : skipC false (32 :: 32 :: c :: r) = c :: r := by rw [skipC_blank h32, skipC_blank h32, letter_head hc]
  rw [scanS_of (by
    intro d hd
    rw [List.mem_cons, List.mem_cons] at hd
    rcases hd with rfl | rfl | hd
    · decide
    · decide
    · exact hok d hd) (by have := flat4 (32 :: 32 :: c :: r); simp only [List.length_cons] at this hm ⊢; omega), scan_bad1 hs (by rw [tk_name hc h, if_pos hl])]
  have : skipped (32 :: 32 :: c :: r) = [32, 32] := by
    unfold skipped
    rw [hs]
    simp
  rw [this]
  rfl
def letterC (i : Nat) : Nat := if i = 0 then 97 else if i = 1 then 90 else if i = 2 then 945 else 1103
def partC (i : Nat) : Nat := if i = 0 then 55 else if i = 1 then 95 else if i = 2 then 8242 else if i = 3 then 8329 else 98
theorem letterC_ok (i : Nat) : cls (letterC i) = 2 ∧ part (letterC i) = true ∧ okc (letterC i) = true := by
  unfold letterC
  repeat' split
  all_goals exact ⟨by decide, by decide, by decide⟩
theorem partC_ok (i : Nat) : part (partC i) = true ∧ okc (partC i) = true := by
  unfold partC
  repeat' split
  all_goals exact ⟨by decide, by decide⟩
def partsL (b : Nat) : Nat → List Nat
  | 0 => []
  | k + 1 => partsL b k ++ [partC ((b + k) % 5)]
theorem partsL_len (b k : Nat) : (partsL b k).length = k := by
  induction k with
  | zero => rfl
  | succ k ih => simp [partsL, ih]
theorem partsL_ok (b k : Nat) : ∀ d ∈ partsL b k, part d = true ∧ okc d = true := by
  induction k with
  | zero => intro d hd; simp [partsL] at hd
  | succ k ih =>
    intro d hd
    simp only [partsL, List.mem_append, List.mem_singleton] at hd
    rcases hd with hd | rfl
    · exact ih d hd
    · exact partC_ok _
def nameT (a b k : Nat) : List UInt8 := (letterC a :: partsL b k).flatMap enc
theorem nameT_zero (a b : Nat) : nameT a b 0 = enc (letterC a) := by simp [nameT, partsL]
theorem nameT_succ (a b k : Nat) : nameT a b (k + 1) = nameT a b k ++ enc (partC ((b + k) % 5)) := by simp [nameT, partsL]
theorem nameT_len (a b k : Nat) : (nameT a b k).length ≤ 4 * (k + 1) := by
  have := flat4 (letterC a :: partsL b k)
  rw [List.length_cons, partsL_len] at this
  exact this
theorem name_law (a b : Nat) : (∃ p q, scanS (nameT a b 15) = .ok [⟨1, nameT a b 15, p⟩, ⟨0, [], q⟩]) ∧ (∃ p, scanS (nameT a b 15 ++ [120]) = .bad 42 p) ∧ scanS ([32, 32] ++ nameT a b 15 ++ [120]) = .bad 42 ⟨2, 2, 1, 3⟩ := by
  have hp := partsL_ok b 15
  have hl := letterC_ok a
  have hn := partsL_len b 15
  have h1 : ∀ d ∈ letterC a :: partsL b 15, part d = true ∧ okc d = true := by
    intro d hd
    rw [List.mem_cons] at hd
    rcases hd with rfl | hd
    · exact ⟨hl.2.1, hl.2.2⟩
    · exact hp d hd
  have h2 : ∀ d ∈ letterC a :: (partsL b 15 ++ [120]), part d = true ∧ okc d = true := by
    intro d hd
    rw [List.mem_cons, List.mem_append, List.mem_singleton] at hd
    rcases hd with rfl | hd | rfl
    · exact ⟨hl.2.1, hl.2.2⟩
    · exact hp d hd
    · exact ⟨by decide, by decide⟩
  have e2 : nameT a b 15 ++ [120] = (letterC a :: (partsL b 15 ++ [120])).flatMap enc := by
    simp [nameT]
    rfl
  refine ⟨name_ok hl.1 (fun d hd => (h1 d hd).1) (fun d hd => (h1 d hd).2) (by simp [hn]), ?_, ?_⟩
  · rw [e2]
    exact name_long hl.1 (fun d hd => (h2 d hd).1) (fun d hd => (h2 d hd).2) (by simp [hn]) (by simp [hn])
  · have := name_far hl.1 (fun d hd => (h2 d hd).1) (fun d hd => (h2 d hd).2) (by simp [hn]) (by simp [hn])
    rw [List.flatMap_cons, List.flatMap_cons, ← e2] at this
    exact this
/-! numbers -/
theorem decText_flat (v : Nat) : ((decText v).map UInt8.toNat).flatMap enc = decText v := flat_asc _ (fun b hb => by have := decText_codes v b hb; omega)
theorem decText_all (v : Nat) : ∀ c ∈ (decText v).map UInt8.toNat, 48 ≤ c ∧ c ≤ 57 := by
  intro c h
  rw [List.mem_map] at h
  obtain ⟨b, hb, rfl⟩ := h
  exact decText_codes v b hb
theorem tk_digits {c : Nat} {r : List Nat} (h : ∀ d ∈ c :: r, 48 ≤ d ∧ d ≤ 57) : tk (c :: r) = if 2 ^ 1024 ≤ digVal (c :: r) then .bad 2 else .ok 2 (decText (digVal (c :: r))) (c :: r).length := by
  have h3 : cls c = 3 := dig_code.2 (h c (by simp))
  have hw : (c :: r).takeWhile digit = c :: r := by
    have := takeWhile_all (p := digit) (c :: r) [] (fun d hd => by have := dig_code.2 (h d hd); simp [digit, this]) (fun z hz => by simp at hz)
    rwa [List.append_nil] at this
  simp only [tk]
  rw [if_neg (by omega), if_pos h3, hw]
theorem digVal_zeros (ds : List Nat) : digVal (48 :: 48 :: ds) = digVal ds := by simp [digVal]
theorem num_ok {v : Nat} (hv : v < 2 ^ 1024) (hl : (decText v).length ≤ 4000) : ∃ p q, scanS ([48, 48] ++ decText v) = .ok [⟨2, decText v, p⟩, ⟨0, [], q⟩] := by
  have hall : ∀ d ∈ 48 :: 48 :: (decText v).map UInt8.toNat, 48 ≤ d ∧ d ≤ 57 := by
    intro d hd
    rw [List.mem_cons, List.mem_cons] at hd
    rcases hd with rfl | rfl | hd
    · omega
    · omega
    · exact decText_all v d hd
  have hdv : digVal (48 :: 48 :: (decText v).map UInt8.toNat) = v := by rw [digVal_zeros, digVal_decText]
  have he : [48, 48] ++ decText v = (48 :: 48 :: (decText v).map UInt8.toNat).flatMap enc := by
    rw [List.flatMap_cons, List.flatMap_cons, decText_flat]
    rfl
  refine ⟨_, _, scanS_mk (cs := 48 :: 48 :: (decText v).map UInt8.toNat) (by simp; omega) he (fun d hd => okc_iff.2 (by have := hall d hd; omega)) (SC.step (c := 48) (r := 48 :: (decText v).map UInt8.toNat) (skipC_head (tokHead_of (Or.inr (Or.inl (by decide)))) _) (by rw [tk_digits hall, hdv, if_neg (by omega)]) (SC.done ?_))⟩
  rw [List.drop_length]
  rfl
theorem num_big {v : Nat} (hv : 2 ^ 1024 ≤ v) (hl : (decText v).length ≤ 4000) : ∃ p, scanS ([49, 32] ++ decText v) = .bad 2 p := by
  have hall := decText_all v
  have he : [49, 32] ++ decText v = (49 :: 32 :: (decText v).map UInt8.toNat).flatMap enc := by
    rw [List.flatMap_cons, List.flatMap_cons, decText_flat]
    rfl
  have h32 : cls ((32 : Nat) : Int) = 1 := by decide
  obtain ⟨c, r, hX⟩ : ∃ c r, (decText v).map UInt8.toNat = c :: r := by
    cases h : decText v with
    | nil => exact absurd h (decText_ne v)
    | cons b l => exact ⟨b.toNat, l.map UInt8.toNat, rfl⟩
  have hdv := digVal_decText v
  rw [hX] at hall he hdv
  have hc3 : cls c = 3 := dig_code.2 (hall c (by simp))
  have hk : tk (49 :: 32 :: c :: r) = .ok 2 (decText 1) 1 := by
    have := (piece_dec (v := 1) (by exact Nat.lt_of_lt_of_le (by decide : 1 < 2 ^ 1) (Nat.pow_le_pow_right (by omega) (by omega)))).tk (32 :: c :: r) (fun z hz => by simp at hz; subst hz; exact part_blank h32)
    have e : (decText 1).map UInt8.toNat = [49] := by simp [decText, dig_pos, dig_zero]
    rw [e] at this
    exact this
  have hlen : (49 :: 32 :: c :: r).length ≤ 4002 := by
    have := congrArg List.length hX
    simp at this
    simp only [List.length_cons]
    omega
  rw [he, scanS_of (by
    intro d hd
    rw [List.mem_cons, List.mem_cons] at hd
    rcases hd with rfl | rfl | hd
    · decide
    · decide
    · exact okc_iff.2 (by have := hall d hd; omega)) (by rw [← he]; simp; omega)]
  have hb := scan_bad1 (brk := false) (n := (32 :: c :: r).length) (pre := [] ++ skipped (49 :: 32 :: c :: r) ++ (49 :: 32 :: c :: r).take 1) (cs := 32 :: c :: r) (c := c) (r := r) (e := 2) (by rw [skipC_blank h32]; exact skipC_head (tokHead_of (Or.inr (Or.inl hc3))) r) (by rw [tk_digits hall, hdv, if_pos hv])
  exact ⟨_, scan_bad2 (c := 49) (r := 32 :: c :: r) (skipC_head (tokHead_of (Or.inr (Or.inl (by decide)))) _) hk hb⟩
theorem decTxt_len {v k : Nat} (hv : v < 10 ^ k) (hk : 1 ≤ k) : (decText v).length ≤ k := by
  unfold decText
  split
  · simpa using hk
  · rw [List.length_map, List.length_reverse]
    exact (dig_len_le (by omega)).2 hv
theorem top_len {v : Nat} (hv : v ≤ 2 ^ 1024) : (decText v).length ≤ 4000 := by
  have h1 : 2 ^ 1024 ≤ 10 ^ 1024 := Nat.pow_le_pow_left (by omega) _
  have h2 : 10 ^ 1024 < 10 ^ 4000 := Nat.pow_lt_pow_right (by omega) (by omega)
  exact decTxt_len (by omega) (by omega)
/-! blanks -/
theorem skip_blanks (n : Nat) : skipC false (List.replicate n 32) = [] := by
  induction n with
  | zero => rfl
  | succ n ih => rw [List.replicate_succ, skipC_blank (by decide), ih]
theorem flat_blanks (n : Nat) : (List.replicate n 32).flatMap enc = List.replicate n (32 : UInt8) := by
  induction n with
  | zero => rfl
  | succ n ih =>
    rw [List.replicate_succ, List.flatMap_cons, ih, List.replicate_succ]
    rfl
theorem blanks_ok : ∃ q, scanS (List.replicate 4096 (32 : UInt8)) = .ok [⟨0, [], q⟩] :=
  ⟨_, scanS_mk (cs := List.replicate 4096 32) (by rw [List.length_replicate]; exact Nat.le_refl _) (flat_blanks 4096).symm (fun c hc => by rw [(List.mem_replicate.1 hc).2]; decide) (SC.done (skip_blanks 4096))⟩
theorem blanks_long : scanS (List.replicate 4096 (32 : UInt8) ++ [32]) = .bad 2 zeroPl := by
  unfold scanS
  rw [if_pos (by rw [List.length_append, List.length_replicate]; decide)]
end Go.Proofs.YtlklijpjacmgpaaGreatDoor

