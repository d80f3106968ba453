/- Plain laws over scan: what GlyphLimits and GlyphNames say of Scan's answers. No program's walk. -/
import Derived.Test.YtklhfbgmadblcaaDoorP4
namespace Go.Proofs.YtklhfbgmadblcaaDoor
open Go
set_option linter.unusedVariables false
set_option linter.unusedSimpArgs false
set_option exponentiation.threshold 5000

theorem scan_bad1 {brk : Bool} {n : Nat} {pre cs : List Nat} {c : Nat} {r : List Nat} {e : Int} (hs : skipC false cs = c :: r) (ht : tk (c :: r) = .bad e) : scan brk (n + 1) pre cs = .bad e (along start (pre ++ skipped cs)) := by
  simp only [scan]
  rw [hs]
  simp only [ht]
theorem scan_bad2 {brk : Bool} {n : Nat} {pre cs : List Nat} {c : Nat} {r : List Nat} {k : Int} {x : List UInt8} {m : Nat} {e : Int} {p : Pl} (hs : skipC false cs = c :: r) (ht : tk (c :: r) = .ok k x m) (h2 : scan brk n (pre ++ skipped cs ++ (c :: r).take m) ((c :: r).drop m) = .bad e p) : scan brk (n + 1) pre cs = .bad e p := by
  simp only [scan]
  rw [hs]
  simp only [ht, h2]
  rfl
theorem scanS_of {cs : List Nat} (hok : ∀ c ∈ cs, okc c = true) (hl : (cs.flatMap enc).length ≤ 4096) : scanS (cs.flatMap enc) = scan false (cs.length + 1) [] cs :=
  scanS_eq (t := []) ⟨by simp, hok, rfl⟩ hl
theorem flat4 (cs : List Nat) : (cs.flatMap enc).length ≤ 4 * cs.length := by
  induction cs with
  | nil => simp
  | cons c cs ih =>
    have := enc_le c
    simp only [List.flatMap_cons, List.length_append, List.length_cons]
    omega

/-! names -/
theorem letter_head {c : Nat} (h : cls c = 2) (r : List Nat) : skipC false (c :: r) = c :: r := skipC_head (cls_letter h) r
theorem tk_name {c : Nat} {r : List Nat} (hc : cls c = 2) (h : ∀ d ∈ c :: r, part d = true) : tk (c :: r) = if 16 < (c :: r).length then .bad 42 else .ok 1 ((c :: r).flatMap enc) (c :: r).length := by
  have hw : (c :: r).takeWhile part = c :: r := by
    have := takeWhile_all (p := part) (c :: r) [] h (fun z hz => by simp at hz)
    rwa [List.append_nil] at this
  simp only [tk]
  rw [if_pos hc, hw]
theorem name_ok {c : Nat} {r : List Nat} (hc : cls c = 2) (h : ∀ d ∈ c :: r, part d = true) (hok : ∀ d ∈ c :: r, okc d = true) (hl : (c :: r).length ≤ 16) : ∃ p q, scanS ((c :: r).flatMap enc) = .ok [⟨1, (c :: r).flatMap enc, p⟩, ⟨0, [], q⟩] := by
  refine ⟨_, _, scanS_mk (by have := flat4 (c :: r); omega) rfl hok (SC.step (letter_head hc r) (by rw [tk_name hc h, if_neg (by omega)]) (SC.done ?_))⟩
  rw [List.drop_length]
  rfl
theorem name_long {c : Nat} {r : List Nat} (hc : cls c = 2) (h : ∀ d ∈ c :: r, part d = true) (hok : ∀ d ∈ c :: r, okc d = true) (hl : 16 < (c :: r).length) (hm : (c :: r).length ≤ 1000) : ∃ p, scanS ((c :: r).flatMap enc) = .bad 42 p := by
  rw [scanS_of hok (by have := flat4 (c :: r); omega)]
  exact ⟨_, scan_bad1 (letter_head hc r) (by rw [tk_name hc h, if_pos hl])⟩
theorem name_far {c : Nat} {r : List Nat} (hc : cls c = 2) (h : ∀ d ∈ c :: r, part d = true) (hok : ∀ d ∈ c :: r, okc d = true) (hl : 16 < (c :: r).length) (hm : (c :: r).length ≤ 1000) : scanS ((32 :: 32 :: c :: r).flatMap enc) = .bad 42 ⟨2, 2, 1, 3⟩ := by
  have h32 : cls ((32 : Nat) : Int) = 1 := by decide
  have hs : skipC false (32 :: 32 :: c :: r) = c :: r := by rw [skipC_blank h32, skipC_blank h32, letter_head hc]
  rw [scanS_of (by
    intro d hd
    rw [List.mem_cons, List.mem_cons] at hd
    rcases hd with rfl | rfl | hd
    · decide
    · decide
    · exact hok d hd) (by have := flat4 (32 :: 32 :: c :: r); simp only [List.length_cons] at this hm ⊢; omega), scan_bad1 hs (by rw [tk_name hc h, if_pos hl])]
  have : skipped (32 :: 32 :: c :: r) = [32, 32] := by
    unfold skipped
    rw [hs]
    simp
  rw [this]
  rfl

def letterC (i : Nat) : Nat := if i = 0 then 97 else if i = 1 then 90 else if i = 2 then 945 else 1103
def partC (i : Nat) : Nat := if i = 0 then 55 else if i = 1 then 95 else if i = 2 then 8242 else if i = 3 then 8329 else 98
theorem letterC_ok (i : Nat) : cls (letterC i) = 2 ∧ part (letterC i) = true ∧ okc (letterC i) = true := by
  unfold letterC
  repeat' split
  all_goals exact ⟨by decide, by decide, by decide⟩
theorem partC_ok (i : Nat) : part (partC i) = true ∧ okc (partC i) = true := by
  unfold partC
  repeat' split
  all_goals exact ⟨by decide, by decide⟩
def partsL (b : Nat) : Nat → List Nat
  | 0 => []
  | k + 1 => partsL b k ++ [partC ((b + k) % 5)]
theorem partsL_len (b k : Nat) : (partsL b k).length = k := by
  induction k with
  | zero => rfl
  | succ k ih => simp [partsL, ih]
theorem partsL_ok (b k : Nat) : ∀ d ∈ partsL b k, part d = true ∧ okc d = true := by
  induction k with
  | zero => intro d hd; simp [partsL] at hd
  | succ k ih =>
    intro d hd
    simp only [partsL, List.mem_append, List.mem_singleton] at hd
    rcases hd with hd | rfl
    · exact ih d hd
    · exact partC_ok _
def nameT (a b k : Nat) : List UInt8 := (letterC a :: partsL b k).flatMap enc
theorem nameT_zero (a b : Nat) : nameT a b 0 = enc (letterC a) := by simp [nameT, partsL]
theorem nameT_succ (a b k : Nat) : nameT a b (k + 1) = nameT a b k ++ enc (partC ((b + k) % 5)) := by simp [nameT, partsL]
theorem nameT_len (a b k : Nat) : (nameT a b k).length ≤ 4 * (k + 1) := by
  have := flat4 (letterC a :: partsL b k)
  rw [List.length_cons, partsL_len] at this
  exact this
theorem name_law (a b : Nat) : (∃ p q, scanS (nameT a b 15) = .ok [⟨1, nameT a b 15, p⟩, ⟨0, [], q⟩]) ∧ (∃ p, scanS (nameT a b 15 ++ [120]) = .bad 42 p) ∧ scanS ([32, 32] ++ nameT a b 15 ++ [120]) = .bad 42 ⟨2, 2, 1, 3⟩ := by
  have hp := partsL_ok b 15
  have hl := letterC_ok a
  have hn := partsL_len b 15
  have h1 : ∀ d ∈ letterC a :: partsL b 15, part d = true ∧ okc d = true := by
    intro d hd
    rw [List.mem_cons] at hd
    rcases hd with rfl | hd
    · exact ⟨hl.2.1, hl.2.2⟩
    · exact hp d hd
  have h2 : ∀ d ∈ letterC a :: (partsL b 15 ++ [120]), part d = true ∧ okc d = true := by
    intro d hd
    rw [List.mem_cons, List.mem_append, List.mem_singleton] at hd
    rcases hd with rfl | hd | rfl
    · exact ⟨hl.2.1, hl.2.2⟩
    · exact hp d hd
    · exact ⟨by decide, by decide⟩
  have e2 : nameT a b 15 ++ [120] = (letterC a :: (partsL b 15 ++ [120])).flatMap enc := by
    simp [nameT]
    rfl
  refine ⟨name_ok hl.1 (fun d hd => (h1 d hd).1) (fun d hd => (h1 d hd).2) (by simp [hn]), ?_, ?_⟩
  · rw [e2]
    exact name_long hl.1 (fun d hd => (h2 d hd).1) (fun d hd => (h2 d hd).2) (by simp [hn]) (by simp [hn])
  · have := name_far hl.1 (fun d hd => (h2 d hd).1) (fun d hd => (h2 d hd).2) (by simp [hn]) (by simp [hn])
    rw [List.flatMap_cons, List.flatMap_cons, ← e2] at this
    exact this

/-! numbers -/
theorem decText_flat (v : Nat) : ((decText v).map UInt8.toNat).flatMap enc = decText v := flat_asc _ (fun b hb => by have := decText_codes v b hb; omega)
theorem decText_all (v : Nat) : ∀ c ∈ (decText v).map UInt8.toNat, 48 ≤ c ∧ c ≤ 57 := by
  intro c h
  rw [List.mem_map] at h
  obtain ⟨b, hb, rfl⟩ := h
  exact decText_codes v b hb
theorem tk_digits {c : Nat} {r : List Nat} (h : ∀ d ∈ c :: r, 48 ≤ d ∧ d ≤ 57) : tk (c :: r) = if 2 ^ 1024 ≤ digVal (c :: r) then .bad 2 else .ok 2 (decText (digVal (c :: r))) (c :: r).length := by
  have h3 : cls c = 3 := dig_code.2 (h c (by simp))
  have hw : (c :: r).takeWhile digit = c :: r := by
    have := takeWhile_all (p := digit) (c :: r) [] (fun d hd => by have := dig_code.2 (h d hd); simp [digit, this]) (fun z hz => by simp at hz)
    rwa [List.append_nil] at this
  simp only [tk]
  rw [if_neg (by omega), if_pos h3, hw]
theorem digVal_zeros (ds : List Nat) : digVal (48 :: 48 :: ds) = digVal ds := by simp [digVal]
theorem num_ok {v : Nat} (hv : v < 2 ^ 1024) (hl : (decText v).length ≤ 4000) : ∃ p q, scanS ([48, 48] ++ decText v) = .ok [⟨2, decText v, p⟩, ⟨0, [], q⟩] := by
  have hall : ∀ d ∈ 48 :: 48 :: (decText v).map UInt8.toNat, 48 ≤ d ∧ d ≤ 57 := by
    intro d hd
    rw [List.mem_cons, List.mem_cons] at hd
    rcases hd with rfl | rfl | hd
    · omega
    · omega
    · exact decText_all v d hd
  have hdv : digVal (48 :: 48 :: (decText v).map UInt8.toNat) = v := by rw [digVal_zeros, digVal_decText]
  have he : [48, 48] ++ decText v = (48 :: 48 :: (decText v).map UInt8.toNat).flatMap enc := by
    rw [List.flatMap_cons, List.flatMap_cons, decText_flat]
    rfl
  refine ⟨_, _, scanS_mk (cs := 48 :: 48 :: (decText v).map UInt8.toNat) (by simp; omega) he (fun d hd => okc_iff.2 (by have := hall d hd; omega)) (SC.step (c := 48) (r := 48 :: (decText v).map UInt8.toNat) (skipC_head (tokHead_of (Or.inr (Or.inl (by decide)))) _) (by rw [tk_digits hall, hdv, if_neg (by omega)]) (SC.done ?_))⟩
  rw [List.drop_length]
  rfl
theorem num_big {v : Nat} (hv : 2 ^ 1024 ≤ v) (hl : (decText v).length ≤ 4000) : ∃ p, scanS ([49, 32] ++ decText v) = .bad 2 p := by
  have hall := decText_all v
  have he : [49, 32] ++ decText v = (49 :: 32 :: (decText v).map UInt8.toNat).flatMap enc := by
    rw [List.flatMap_cons, List.flatMap_cons, decText_flat]
    rfl
  have h32 : cls ((32 : Nat) : Int) = 1 := by decide
  obtain ⟨c, r, hX⟩ : ∃ c r, (decText v).map UInt8.toNat = c :: r := by
    cases h : decText v with
    | nil => exact absurd h (decText_ne v)
    | cons b l => exact ⟨b.toNat, l.map UInt8.toNat, rfl⟩
  have hdv := digVal_decText v
  rw [hX] at hall he hdv
  have hc3 : cls c = 3 := dig_code.2 (hall c (by simp))
  have hk : tk (49 :: 32 :: c :: r) = .ok 2 (decText 1) 1 := by
    have := (piece_dec (v := 1) (by exact Nat.lt_of_lt_of_le (by decide : 1 < 2 ^ 1) (Nat.pow_le_pow_right (by omega) (by omega)))).tk (32 :: c :: r) (fun z hz => by simp at hz; subst hz; exact part_blank h32)
    have e : (decText 1).map UInt8.toNat = [49] := by simp [decText, dig_pos, dig_zero]
    rw [e] at this
    exact this
  have hlen : (49 :: 32 :: c :: r).length ≤ 4002 := by
    have := congrArg List.length hX
    simp at this
    simp only [List.length_cons]
    omega
  rw [he, scanS_of (by
    intro d hd
    rw [List.mem_cons, List.mem_cons] at hd
    rcases hd with rfl | rfl | hd
    · decide
    · decide
    · exact okc_iff.2 (by have := hall d hd; omega)) (by rw [← he]; simp; omega)]
  have hb := scan_bad1 (brk := false) (n := (32 :: c :: r).length) (pre := [] ++ skipped (49 :: 32 :: c :: r) ++ (49 :: 32 :: c :: r).take 1) (cs := 32 :: c :: r) (c := c) (r := r) (e := 2) (by rw [skipC_blank h32]; exact skipC_head (tokHead_of (Or.inr (Or.inl hc3))) r) (by rw [tk_digits hall, hdv, if_pos hv])
  exact ⟨_, scan_bad2 (c := 49) (r := 32 :: c :: r) (skipC_head (tokHead_of (Or.inr (Or.inl (by decide)))) _) hk hb⟩
theorem decTxt_len {v k : Nat} (hv : v < 10 ^ k) (hk : 1 ≤ k) : (decText v).length ≤ k := by
  unfold decText
  split
  · simpa using hk
  · rw [List.length_map, List.length_reverse]
    exact (dig_len_le (by omega)).2 hv
theorem top_len {v : Nat} (hv : v ≤ 2 ^ 1024) : (decText v).length ≤ 4000 := by
  have h1 : 2 ^ 1024 ≤ 10 ^ 1024 := Nat.pow_le_pow_left (by omega) _
  have h2 : 10 ^ 1024 < 10 ^ 4000 := Nat.pow_lt_pow_right (by omega) (by omega)
  exact decTxt_len (by omega) (by omega)

/-! blanks -/
theorem skip_blanks (n : Nat) : skipC false (List.replicate n 32) = [] := by
  induction n with
  | zero => rfl
  | succ n ih => rw [List.replicate_succ, skipC_blank (by decide), ih]
theorem flat_blanks (n : Nat) : (List.replicate n 32).flatMap enc = List.replicate n (32 : UInt8) := by
  induction n with
  | zero => rfl
  | succ n ih =>
    rw [List.replicate_succ, List.flatMap_cons, ih, List.replicate_succ]
    rfl
theorem blanks_ok : ∃ q, scanS (List.replicate 4096 (32 : UInt8)) = .ok [⟨0, [], q⟩] :=
  ⟨_, scanS_mk (cs := List.replicate 4096 32) (by rw [List.length_replicate]; exact Nat.le_refl _) (flat_blanks 4096).symm (fun c hc => by rw [(List.mem_replicate.1 hc).2]; decide) (SC.done (skip_blanks 4096))⟩
theorem blanks_long : scanS (List.replicate 4096 (32 : UInt8) ++ [32]) = .bad 2 zeroPl := by
  unfold scanS
  rw [if_pos (by rw [List.length_append, List.length_replicate]; decide)]
end Go.Proofs.YtklhfbgmadblcaaDoor
