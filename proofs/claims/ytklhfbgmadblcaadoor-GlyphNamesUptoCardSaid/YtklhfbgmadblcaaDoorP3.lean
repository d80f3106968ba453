/- Plain laws over scan: tokens read again, with other signs, with blanks and comments ahead. No program's walk. -/
import Derived.Test.YtklhfbgmadblcaaDoorP2
namespace Go.Proofs.YtklhfbgmadblcaaDoor
open Go
set_option linter.unusedVariables false
set_option linter.unusedSimpArgs false

theorem sc_pre {pre cs : List Nat} {l : List Tok} (h : SC pre cs l) : ∀ pre', ∃ l', SC pre' cs l' ∧ l'.map Tok.kt = l.map Tok.kt := by
  induction h with
  | done h => exact fun pre' => ⟨_, .done h, rfl⟩
  | step h ht hl ih =>
    intro pre'
    obtain ⟨l', h1, h2⟩ := ih _
    exact ⟨_, .step h ht h1, by simp [h2, Tok.kt]⟩
/-- what is skipped alike is read alike -/
theorem sc_skip {pre cs : List Nat} {l : List Tok} (h : SC pre cs l) {cs' : List Nat} (hs : skipC false cs' = skipC false cs) (pre' : List Nat) : ∃ l', SC pre' cs' l' ∧ l'.map Tok.kt = l.map Tok.kt := by
  cases h with
  | done h => exact ⟨_, .done (hs.trans h), rfl⟩
  | step h ht hl =>
    obtain ⟨l', h1, h2⟩ := sc_pre hl _
    exact ⟨_, .step (hs.trans h) ht h1, by simp [h2, Tok.kt]⟩
theorem skipC_blank {b : Nat} (hb : cls b = 1) (r : List Nat) : skipC false (b :: r) = skipC false r := by
  simp only [skipC]
  split
  · rfl
  · rw [if_neg (by omega)]
    simp [hb]
theorem part_blank {b : Nat} (hb : cls b = 1) : part b = false := by simp [part, hb]

/-- code points that are read as a token -/
structure Piece (k : Int) (x : List UInt8) (X : List Nat) : Prop where
  head : ∃ c r, X = c :: r ∧ tokHead c
  ok : ∀ d ∈ X, okc d = true
  tk : ∀ Z, (∀ z, Z.head? = some z → part z = false) → tk (X ++ Z) = .ok k x X.length

theorem sc_pieces {b : Nat} (hb : cls b = 1) : ∀ (L : List ((Int × List UInt8) × List Nat)), (∀ q ∈ L, Piece q.1.1 q.1.2 q.2) → ∀ (W : List Nat), skipC false W = [] → ∀ pre : List Nat,
    ∃ l, SC pre ((L.flatMap fun q => q.2 ++ [b]) ++ W) l ∧ l.map Tok.kt = L.map (·.1) ++ [(0, [])]
  | [], h, W, hW, pre => ⟨_, .done (by simpa using hW), rfl⟩
  | q :: L, h, W, hW, pre => by
    obtain ⟨⟨c, r, hX, hc⟩, hok, htk⟩ := h q (by simp)
    have e : ((q :: L).flatMap fun q => q.2 ++ [b]) ++ W = q.2 ++ (b :: ((L.flatMap fun q => q.2 ++ [b]) ++ W)) := by simp
    rw [e]
    have ht := htk (b :: ((L.flatMap fun q => q.2 ++ [b]) ++ W)) (fun z hz => by simp at hz; subst hz; exact part_blank hb)
    have hs : skipC false (q.2 ++ (b :: ((L.flatMap fun q => q.2 ++ [b]) ++ W))) = q.2 ++ (b :: ((L.flatMap fun q => q.2 ++ [b]) ++ W)) := by rw [hX]; exact skipC_head hc _
    obtain ⟨l1, h1, h2⟩ := sc_pieces hb L (fun q hq => h q (by simp [hq])) W hW []
    obtain ⟨l2, h3, h4⟩ := sc_skip h1 (skipC_blank hb _) (pre ++ skipped (q.2 ++ (b :: ((L.flatMap fun q => q.2 ++ [b]) ++ W))) ++ (q.2 ++ (b :: ((L.flatMap fun q => q.2 ++ [b]) ++ W))).take q.2.length)
    generalize hY : b :: ((L.flatMap fun q => q.2 ++ [b]) ++ W) = Y at *
    have hd : (q.2 ++ Y).drop q.2.length = Y := List.drop_left
    refine ⟨⟨q.1.1, q.1.2, along start (pre ++ skipped (q.2 ++ Y))⟩ :: l2, ?_, ?_⟩
    · rw [hX] at hs ht h3 hd ⊢
      refine SC.step (c := c) (r := r ++ Y) hs ht ?_
      change SC _ (((c :: r) ++ Y).drop (c :: r).length) l2
      rw [hd]
      exact h3
    · simp [Tok.kt, h4, h2]

/-! the pieces of tokens -/
theorem flat_asc : ∀ (l : List UInt8), (∀ b ∈ l, b.toNat < 128) → (l.map UInt8.toNat).flatMap enc = l
  | [], _ => rfl
  | b :: l, h => by
    have hb := h b (by simp)
    simp [enc, hb, flat_asc l (fun c hc => h c (by simp [hc]))]
theorem cls_letter {c : Nat} (h : cls c = 2) : tokHead c := tokHead_of (Or.inl h)
theorem dig_code {c : Nat} : cls c = 3 ↔ 48 ≤ c ∧ c ≤ 57 := by
  unfold cls
  constructor
  · intro h
    by_cases hd : isDigit c = true
    · simp [isDigit] at hd; omega
    · exfalso
      repeat' split at h
      all_goals first | omega | exact hd ‹_›
  · intro h
    have h1 : isBlank c = false := by simp [isBlank]; omega
    have h2 : isLetter c = false := by simp [isLetter]; omega
    have h3 : isDigit c = true := by simp [isDigit]; omega
    simp [h1, h2, h3]
theorem takeWhile_all {p : Nat → Bool} : ∀ (l Z : List Nat), (∀ c ∈ l, p c = true) → (∀ z, Z.head? = some z → p z = false) → (l ++ Z).takeWhile p = l
  | [], Z, h, hZ => by
    cases Z with
    | nil => rfl
    | cons z Z => simp [hZ z rfl]
  | c :: l, Z, h, hZ => by
    simp [h c (by simp), takeWhile_all l Z (fun d hd => h d (by simp [hd])) hZ]
theorem decText_codes (v : Nat) : ∀ b ∈ decText v, 48 ≤ b.toNat ∧ b.toNat ≤ 57 := by
  intro b hb
  unfold decText at hb
  split at hb
  · simp at hb; subst hb; decide
  · rw [List.mem_map] at hb
    obtain ⟨d, hd, rfl⟩ := hb
    have := dig_lt (b := 10) (by omega) v d (by simpa using hd)
    simp only [UInt8.toNat_ofNat']
    omega
theorem digVal_decText (v : Nat) : digVal ((decText v).map UInt8.toNat) = v := by
  unfold decText
  split
  · rename_i h; subst h; rfl
  · rw [digVal_val]
    have : ∀ l : List Nat, (∀ d ∈ l, d < 10) → (((l.reverse.map fun d => UInt8.ofNat (48 + d)).map UInt8.toNat).reverse.map (· - 48)) = l := by
      intro l hl
      rw [List.map_map, ← List.map_reverse, List.reverse_reverse, List.map_map]
      conv => rhs; rw [← List.map_id l]
      apply List.map_congr_left
      intro d hd
      have := hl d hd
      simp only [Function.comp, UInt8.toNat_ofNat', id]
      omega
    rw [this _ (dig_lt (by omega) v), valB_dig (by omega)]
theorem piece_dec {v : Nat} (hv : v < 2 ^ 1024) : Piece 2 (decText v) ((decText v).map UInt8.toNat) := by
  have hc := decText_codes v
  have hne := decText_ne v
  have hall : ∀ c ∈ (decText v).map UInt8.toNat, 48 ≤ c ∧ c ≤ 57 := by
    intro c h; rw [List.mem_map] at h; obtain ⟨b, hb, rfl⟩ := h; exact hc b hb
  obtain ⟨c, r, hX⟩ : ∃ c r, (decText v).map UInt8.toNat = c :: r := by
    cases h : decText v with
    | nil => exact absurd h hne
    | cons b l => exact ⟨b.toNat, l.map UInt8.toNat, rfl⟩
  have h3 : cls c = 3 := dig_code.2 (hall c (by rw [hX]; simp))
  refine ⟨⟨c, r, hX, tokHead_of (Or.inr (Or.inl h3))⟩, fun d hd => okc_iff.2 (by have := hall d hd; omega), fun Z hZ => ?_⟩
  have hw : ((decText v).map UInt8.toNat ++ Z).takeWhile digit = (decText v).map UInt8.toNat :=
    takeWhile_all _ Z (fun d hd => by have := dig_code.2 (hall d hd); simp [digit, this]) (fun z hz => part_digit (hZ z hz))
  have hv2 := digVal_decText v
  rw [hX] at hw hv2 ⊢
  rw [List.cons_append] at hw ⊢
  simp only [tk]
  rw [if_neg (by omega), if_pos h3, hw, if_neg (by rw [hv2]; omega), hv2]

theorem sign_codes {c : Nat} (h : cls c = 5) : c = 43 ∨ c = 45 ∨ c = 42 ∨ c = 47 ∨ c = 37 ∨ c = 40 ∨ c = 41 ∨ c = 123 ∨ c = 125 ∨ c = 44 ∨ c = 59 ∨ c = 58 ∨ c = 61 ∨ c = 33 ∨ c = 63 ∨ c = 64 ∨ c = 183 ∨ c = 215 ∨ c = 247 ∨ c = 8722 ∨ c = 8788 ∨ c = 8800 := by
  unfold cls at h
  repeat' split at h
  all_goals first | omega | skip
  rename_i h5
  simp [isSign] at h5
  omega
theorem piece_one {c : Nat} (h5 : cls c = 5) (h1 : c ≠ 8788) (h2 : c ≠ 8800) (h3 : ¬ (c = 58 ∨ c = 33)) : Piece 3 [UInt8.ofNat (fold c).toNat] [c] := by
  refine ⟨⟨c, [], rfl, tokHead_of (Or.inr (Or.inr h5))⟩, fun d hd => ?_, fun Z hZ => ?_⟩
  · simp at hd; subst hd
    have := sign_codes h5
    exact okc_iff.2 (by omega)
  · simp only [List.cons_append, List.nil_append, tk]
    rw [if_neg (by omega), if_neg (by omega), if_pos h5, if_neg h1, if_neg h2, if_neg h3]
    rfl
theorem piece_two {c : Nat} (h : c = 58 ∨ c = 33) : Piece 3 [UInt8.ofNat c, 61] [c, 61] := by
  have h5 : cls c = 5 := by rcases h with rfl | rfl <;> decide
  refine ⟨⟨c, [61], rfl, tokHead_of (Or.inr (Or.inr h5))⟩, fun d hd => ?_, fun Z hZ => ?_⟩
  · simp at hd; exact okc_iff.2 (by omega)
  · simp only [List.cons_append, List.nil_append, tk]
    rw [if_neg (by omega), if_neg (by omega), if_pos h5, if_neg (by omega), if_neg (by omega), if_pos h, if_pos (show (61 :: Z).head? = some 61 from rfl)]
    rfl
theorem piece_gets : Piece 3 [58, 61] [8788] := by
  refine ⟨⟨8788, [], rfl, tokHead_of (Or.inr (Or.inr (by decide)))⟩, fun d hd => ?_, fun Z hZ => ?_⟩
  · simp at hd; subst hd; decide
  · have h5 : cls (8788 : Nat) = 5 := by decide
    simp only [List.cons_append, List.nil_append, tk]
    rw [if_neg (by omega), if_neg (by omega), if_pos h5, if_pos trivial]
    rfl
theorem piece_unlike : Piece 3 [33, 61] [8800] := by
  refine ⟨⟨8800, [], rfl, tokHead_of (Or.inr (Or.inr (by decide)))⟩, fun d hd => ?_, fun Z hZ => ?_⟩
  · simp at hd; subst hd; decide
  · have h5 : cls (8800 : Nat) = 5 := by decide
    simp only [List.cons_append, List.nil_append, tk]
    rw [if_neg (by omega), if_neg (by omega), if_pos h5, if_neg (by omega), if_pos trivial]
    rfl
/-- the texts of signs -/
def signTexts : List (List UInt8) := [[43], [45], [42], [47], [37], [40], [41], [123], [125], [44], [59], [61], [63], [64], [58, 61], [33, 61]]
theorem tk_kind {c : Nat} {r : List Nat} {k : Int} {x : List UInt8} {m : Nat} (h : tk (c :: r) = .ok k x m) :
    (k = 1 ∧ x = ((c :: r).take m).flatMap enc ∧ cls c = 2) ∨ (k = 2 ∧ ∃ v, v < 2 ^ 1024 ∧ x = decText v) ∨ (k = 3 ∧ x ∈ signTexts) := by
  simp only [tk] at h
  by_cases h2 : cls c = 2
  · rw [if_pos h2] at h
    split at h
    · cases h
    · cases h; exact Or.inl ⟨rfl, by rw [takeWhile_take], h2⟩
  · rw [if_neg h2] at h
    by_cases h3 : cls c = 3
    · rw [if_pos h3] at h
      split at h
      · cases h
      · rename_i hb
        cases h; exact Or.inr (Or.inl ⟨rfl, _, Nat.lt_of_not_le hb, rfl⟩)
    · rw [if_neg h3] at h
      by_cases h5 : cls c = 5
      · rw [if_pos h5] at h
        refine Or.inr (Or.inr ?_)
        have hc := sign_codes h5
        by_cases e1 : c = 8788
        · rw [if_pos e1] at h; cases h; exact ⟨rfl, by decide⟩
        · rw [if_neg e1] at h
          by_cases e2 : c = 8800
          · rw [if_pos e2] at h; cases h; exact ⟨rfl, by decide⟩
          · rw [if_neg e2] at h
            by_cases e3 : c = 58 ∨ c = 33
            · rw [if_pos e3] at h
              split at h
              · cases h; exact ⟨rfl, by rcases e3 with rfl | rfl <;> decide⟩
              · cases h
            · rw [if_neg e3] at h
              cases h
              refine ⟨rfl, ?_⟩
              rcases hc with rfl | rfl | rfl | rfl | rfl | rfl | rfl | rfl | rfl | rfl | rfl | rfl | rfl | rfl | rfl | rfl | rfl | rfl | rfl | rfl | rfl | rfl
              all_goals first | decide | (exfalso; omega)
      · rw [if_neg h5] at h; cases h
theorem piece_sign {x : List UInt8} (h : x ∈ signTexts) : Piece 3 x (x.map UInt8.toNat) ∧ (x.map UInt8.toNat).flatMap enc = x := by
  simp only [signTexts, List.mem_cons, List.not_mem_nil, or_false] at h
  rcases h with rfl | rfl | rfl | rfl | rfl | rfl | rfl | rfl | rfl | rfl | rfl | rfl | rfl | rfl | rfl | rfl
  · exact ⟨piece_one (c := 43) (by decide) (by decide) (by decide) (by decide), by decide⟩
  · exact ⟨piece_one (c := 45) (by decide) (by decide) (by decide) (by decide), by decide⟩
  · exact ⟨piece_one (c := 42) (by decide) (by decide) (by decide) (by decide), by decide⟩
  · exact ⟨piece_one (c := 47) (by decide) (by decide) (by decide) (by decide), by decide⟩
  · exact ⟨piece_one (c := 37) (by decide) (by decide) (by decide) (by decide), by decide⟩
  · exact ⟨piece_one (c := 40) (by decide) (by decide) (by decide) (by decide), by decide⟩
  · exact ⟨piece_one (c := 41) (by decide) (by decide) (by decide) (by decide), by decide⟩
  · exact ⟨piece_one (c := 123) (by decide) (by decide) (by decide) (by decide), by decide⟩
  · exact ⟨piece_one (c := 125) (by decide) (by decide) (by decide) (by decide), by decide⟩
  · exact ⟨piece_one (c := 44) (by decide) (by decide) (by decide) (by decide), by decide⟩
  · exact ⟨piece_one (c := 59) (by decide) (by decide) (by decide) (by decide), by decide⟩
  · exact ⟨piece_one (c := 61) (by decide) (by decide) (by decide) (by decide), by decide⟩
  · exact ⟨piece_one (c := 63) (by decide) (by decide) (by decide) (by decide), by decide⟩
  · exact ⟨piece_one (c := 64) (by decide) (by decide) (by decide) (by decide), by decide⟩
  · exact ⟨piece_two (c := 58) (Or.inl rfl), by decide⟩
  · exact ⟨piece_two (c := 33) (Or.inr rfl), by decide⟩
theorem piece_name {c : Nat} {r : List Nat} {x : List UInt8} {m : Nat} (h : tk (c :: r) = .ok 1 x m) (h2 : cls c = 2) (hok : ∀ d ∈ c :: r, okc d = true) : Piece 1 x ((c :: r).take m) := by
  obtain ⟨m1, m2, _⟩ := tk_ok h
  obtain ⟨m, rfl⟩ : ∃ j, m = j + 1 := ⟨m - 1, by omega⟩
  refine ⟨⟨c, r.take m, by simp, tokHead_of (Or.inl h2)⟩, fun d hd => hok d (List.mem_of_mem_take hd), fun Z hZ => ?_⟩
  have := tk_cut h Z (fun z hz => good_of (hZ z hz) _)
  rw [this, List.length_take, Nat.min_eq_left m2]
/-- a token's own text is read as it -/
theorem tk_again {c : Nat} {r : List Nat} {k : Int} {x : List UInt8} {m : Nat} (h : tk (c :: r) = .ok k x m) (hok : ∀ d ∈ c :: r, okc d = true) : ∃ X, Piece k x X ∧ X.flatMap enc = x := by
  rcases tk_kind h with ⟨rfl, hx, h2⟩ | ⟨rfl, v, hv, rfl⟩ | ⟨rfl, hx⟩
  · exact ⟨_, piece_name h h2 hok, hx.symm⟩
  · exact ⟨_, piece_dec hv, flat_asc _ (fun b hb => by have := decText_codes v b hb; omega)⟩
  · exact ⟨_, piece_sign hx⟩

/-- the other way to write a sign -/
def alt (odd : Bool) (k : Int) (x : List UInt8) : List UInt8 :=
  if k = 3 then
    if x = [45] then enc 8722 else if x = [42] then (if odd then enc 183 else enc 215) else if x = [47] then enc 247 else if x = [58, 61] then enc 8788 else if x = [33, 61] then enc 8800 else x
  else x
theorem tk_alt {c : Nat} {r : List Nat} {k : Int} {x : List UInt8} {m : Nat} (h : tk (c :: r) = .ok k x m) (hok : ∀ d ∈ c :: r, okc d = true) (odd : Bool) : ∃ X, Piece k x X ∧ X.flatMap enc = alt odd k x := by
  obtain ⟨X, hX, hx⟩ := tk_again h hok
  unfold alt
  by_cases hk : k = 3
  · subst hk
    rw [if_pos rfl]
    split
    · rename_i e; subst e; exact ⟨[8722], piece_one (c := 8722) (by decide) (by decide) (by decide) (by decide), by simp⟩
    · split
      · rename_i e; subst e
        cases odd with
        | true => exact ⟨[183], piece_one (c := 183) (by decide) (by decide) (by decide) (by decide), by simp⟩
        | false => exact ⟨[215], piece_one (c := 215) (by decide) (by decide) (by decide) (by decide), by simp⟩
      · split
        · rename_i e; subst e; exact ⟨[247], piece_one (c := 247) (by decide) (by decide) (by decide) (by decide), by simp⟩
        · split
          · rename_i e; subst e; exact ⟨[8788], piece_gets, by simp⟩
          · split
            · rename_i e; subst e; exact ⟨[8800], piece_unlike, by simp⟩
            · exact ⟨X, hX, hx⟩
  · rw [if_neg hk]; exact ⟨X, hX, hx⟩
end Go.Proofs.YtklhfbgmadblcaaDoor
