/- Digits of numbers to a base, the lowest first: plain lemmas, no program. -/
import Derived.Test.YtklhfbgmadblcaaDoorStr
namespace Go.Proofs.YtklhfbgmadblcaaDoor
open Go
set_option linter.unusedVariables false
set_option linter.unusedSimpArgs false

/-- the number that digits to the base b say -/
def valB (b : Nat) : List Nat → Nat
  | [] => 0
  | d :: ds => d + b * valB b ds
/-- its digits -/
def dig (b n : Nat) : List Nat := if h : n = 0 ∨ b < 2 then [] else n % b :: dig b (n / b)
termination_by n
decreasing_by
  have : b ≥ 2 := by omega
  exact Nat.div_lt_self (by omega) (by omega)

theorem dig_zero (b : Nat) : dig b 0 = [] := by unfold dig; simp
theorem dig_pos {b n : Nat} (hb : 2 ≤ b) (hn : n ≠ 0) : dig b n = n % b :: dig b (n / b) := by
  rw [dig]; rw [dif_neg (by omega)]
theorem valB_append (b : Nat) (xs ys : List Nat) : valB b (xs ++ ys) = valB b xs + b ^ xs.length * valB b ys := by
  induction xs with
  | nil => simp [valB]
  | cons x xs ih => simp only [List.cons_append, valB, ih, List.length_cons, Nat.pow_succ]; rw [Nat.mul_add, Nat.mul_comm (b ^ _) b, Nat.mul_assoc]; omega
theorem valB_replicate (b n : Nat) : valB b (List.replicate n 0) = 0 := by
  induction n with
  | zero => rfl
  | succ n ih => simp [List.replicate_succ, valB, ih]
theorem valB_dig {b : Nat} (hb : 2 ≤ b) (n : Nat) : valB b (dig b n) = n := by
  induction n using Nat.strongRecOn with
  | _ n ih =>
    by_cases hn : n = 0
    · subst hn; simp [dig_zero, valB]
    · rw [dig_pos hb hn, valB, ih (n / b) (Nat.div_lt_self (by omega) (by omega))]
      have := Nat.mod_add_div n b
      omega
theorem valB_lt {b : Nat} (hb : 1 ≤ b) : ∀ {xs : List Nat}, (∀ x ∈ xs, x < b) → valB b xs < b ^ xs.length
  | [], _ => by simp [valB]
  | x :: xs, h => by
    have h1 := valB_lt hb (xs := xs) (fun y hy => h y (List.mem_cons_of_mem _ hy))
    have h2 := h x (List.mem_cons_self ..)
    simp only [valB, List.length_cons, Nat.pow_succ]
    have h3 : b * (valB b xs + 1) ≤ b * b ^ xs.length := Nat.mul_le_mul_left b h1
    rw [Nat.mul_comm (b ^ _) b]
    rw [Nat.mul_add] at h3
    omega
theorem dig_lt {b : Nat} (hb : 2 ≤ b) (n : Nat) : ∀ x ∈ dig b n, x < b := by
  induction n using Nat.strongRecOn with
  | _ n ih =>
    by_cases hn : n = 0
    · subst hn; simp [dig_zero]
    · rw [dig_pos hb hn]
      intro x hx
      cases hx with
      | head => exact Nat.mod_lt _ (by omega)
      | tail _ hx => exact ih (n / b) (Nat.div_lt_self (by omega) (by omega)) x hx

/-- without those 0 on top -/
def trimT : List Nat → List Nat
  | [] => []
  | x :: xs => match trimT xs with
    | [] => if x = 0 then [] else [x]
    | y :: ys => x :: y :: ys

theorem trimT_eq {b : Nat} (hb : 2 ≤ b) : ∀ {xs : List Nat}, (∀ x ∈ xs, x < b) → trimT xs = dig b (valB b xs)
  | [], _ => by simp [trimT, valB, dig_zero]
  | x :: xs, h => by
    have h1 := trimT_eq hb (xs := xs) (fun y hy => h y (List.mem_cons_of_mem _ hy))
    have h2 := h x (List.mem_cons_self ..)
    have hm : (x + b * valB b xs) % b = x := by rw [Nat.add_mul_mod_self_left, Nat.mod_eq_of_lt h2]
    have hd : (x + b * valB b xs) / b = valB b xs := by rw [Nat.add_mul_div_left _ _ (by omega), Nat.div_eq_of_lt h2]; omega
    simp only [trimT, valB]
    by_cases hv : valB b xs = 0
    · rw [hv, dig_zero] at h1
      rw [h1, hv]
      by_cases hx : x = 0
      · simp [hx, dig_zero]
      · have := dig_pos (b := b) (n := x + b * 0) hb (by omega)
        rw [this]
        simp [hx, Nat.mod_eq_of_lt h2, Nat.div_eq_of_lt h2, dig_zero]
    · have hp := dig_pos (b := b) (n := x + b * valB b xs) hb (by
        have : 0 < b * valB b xs := Nat.mul_pos (by omega) (by omega)
        omega)
      rw [hp, hm, hd, h1]
      rw [dig_pos hb hv]

theorem trimT_prefix : ∀ (xs : List Nat), ∃ k, k ≤ xs.length ∧ trimT xs = xs.take k ∧ (∀ j, k ≤ j → j < xs.length → xs[j]? = some 0) ∧ (k = 0 ∨ ∃ y, xs[k - 1]? = some y ∧ y ≠ 0)
  | [] => ⟨0, Nat.le_refl _, rfl, fun j _ h => by simp at h, Or.inl rfl⟩
  | x :: xs => by
    obtain ⟨k, hk, h1, h2, h3⟩ := trimT_prefix xs
    simp only [trimT]
    cases hq : trimT xs with
    | nil =>
      have k0 : k = 0 := by
        rcases h3 with h3 | ⟨y, hy, _⟩
        · exact h3
        · have hl := congrArg List.length (hq.symm.trans h1)
          simp only [List.length_nil, List.length_take] at hl
          omega
      subst k0
      by_cases hx : x = 0
      · refine ⟨0, Nat.zero_le _, by simp [hx], fun j _ hj => ?_, Or.inl rfl⟩
        cases j with
        | zero => simp [hx]
        | succ j => simp only [List.getElem?_cons_succ]; exact h2 j (Nat.zero_le _) (by simpa using hj)
      · refine ⟨1, by simp, by simp [hx], fun j hj1 hj => ?_, Or.inr ⟨x, by simp, hx⟩⟩
        cases j with
        | zero => omega
        | succ j => simp only [List.getElem?_cons_succ]; exact h2 j (Nat.zero_le _) (by simpa using hj)
    | cons y ys =>
      refine ⟨k + 1, by simp; omega, by rw [List.take_succ_cons, ← h1, hq], fun j hj1 hj => ?_, Or.inr ?_⟩
      · cases j with
        | zero => omega
        | succ j => simp only [List.getElem?_cons_succ]; exact h2 j (by omega) (by simpa using hj)
      · rcases h3 with h3 | ⟨z, hz, hz0⟩
        · subst h3; rw [hq] at h1; simp at h1
        · refine ⟨z, ?_, hz0⟩
          cases k with
          | zero => rw [hq] at h1; simp at h1
          | succ k => simpa using hz

/-- where the cutting stops -/
theorem trimT_at {xs : List Nat} {k : Nat} (hk : k ≤ xs.length) (h : ∀ j, k ≤ j → j < xs.length → xs[j]? = some 0) (h2 : k = 0 ∨ ∃ y, xs[k - 1]? = some y ∧ y ≠ 0) : trimT xs = xs.take k := by
  obtain ⟨k', hk', h1, h3, h4⟩ := trimT_prefix xs
  have : k = k' := by
    rcases Nat.lt_trichotomy k k' with hlt | heq | hgt
    · rcases h4 with h4 | ⟨y, hy, hy0⟩
      · omega
      · have := h (k' - 1) (by omega) (by omega)
        rw [this] at hy; simp at hy; omega
    · exact heq
    · rcases h2 with h2 | ⟨y, hy, hy0⟩
      · omega
      · have := h3 (k - 1) (by omega) (by omega)
        rw [this] at hy; simp at hy; omega
  rw [this]; exact h1

/-- division by a small number: the digits of the quotient, and the rest -/
def divL (b k : Nat) : List Nat → List Nat × Nat
  | [] => ([], 0)
  | a :: as => (((divL b k as).2 * b + a) / k :: (divL b k as).1, ((divL b k as).2 * b + a) % k)

theorem divL_len (b k : Nat) (xs : List Nat) : (divL b k xs).1.length = xs.length := by
  induction xs with
  | nil => rfl
  | cons x xs ih => simp [divL, ih]
theorem divL_rest {k : Nat} (b : Nat) (hk : 0 < k) (xs : List Nat) : (divL b k xs).2 < k := by
  cases xs with
  | nil => exact hk
  | cons x xs => exact Nat.mod_lt _ hk
theorem divL_lt {b k : Nat} (hk : 0 < k) {xs : List Nat} (h : ∀ x ∈ xs, x < b) : ∀ x ∈ (divL b k xs).1, x < b := by
  induction xs with
  | nil => intro x hx; cases hx
  | cons x xs ih =>
    intro y hy
    cases hy with
    | head =>
      have h1 := divL_rest b hk xs
      have h2 := h x (List.mem_cons_self ..)
      refine (Nat.div_lt_iff_lt_mul hk).2 ?_
      have : ((divL b k xs).2 + 1) * b ≤ k * b := Nat.mul_le_mul_right b h1
      rw [Nat.add_mul] at this
      rw [Nat.mul_comm b k]
      omega
    | tail _ hy => exact ih (fun z hz => h z (List.mem_cons_of_mem _ hz)) y hy
theorem divL_val {b k : Nat} (hk : 0 < k) (xs : List Nat) : valB b xs = k * valB b (divL b k xs).1 + (divL b k xs).2 := by
  induction xs with
  | nil => simp [valB, divL]
  | cons x xs ih =>
    simp only [valB, divL]
    have h1 := Nat.div_add_mod ((divL b k xs).2 * b + x) k
    rw [ih, Nat.mul_add, Nat.mul_add]
    have e1 : b * (k * valB b (divL b k xs).1) = k * (b * valB b (divL b k xs).1) := by rw [← Nat.mul_assoc, ← Nat.mul_assoc, Nat.mul_comm b k]
    rw [e1, Nat.mul_comm b (divL b k xs).2]
    omega
theorem divL_quo {b k : Nat} (hk : 0 < k) (xs : List Nat) : valB b (divL b k xs).1 = valB b xs / k ∧ (divL b k xs).2 = valB b xs % k := by
  have h := divL_val (b := b) hk xs
  have hr := divL_rest b hk xs
  rw [h]
  refine ⟨?_, ?_⟩
  · rw [Nat.mul_add_div hk, Nat.div_eq_of_lt hr]; omega
  · rw [Nat.mul_add_mod, Nat.mod_eq_of_lt hr]

/-- decimal digits of a number, as bytes -/
def decText (n : Nat) : List UInt8 := if n = 0 then [48] else (dig 10 n).reverse.map fun d => UInt8.ofNat (48 + d)
/-- the number that digits say -/
def digVal (ds : List Nat) : Nat := ds.foldl (fun v d => v * 10 + (d - 48)) 0

theorem digVal_snoc (ds : List Nat) (d : Nat) : digVal (ds ++ [d]) = digVal ds * 10 + (d - 48) := by simp [digVal]
theorem digVal_val (ds : List Nat) : digVal ds = valB 10 (ds.reverse.map (· - 48)) := by
  rw [← List.reverse_reverse ds]
  generalize ds.reverse = rs
  induction rs with
  | nil => rfl
  | cons r rs ih => simp only [List.reverse_cons, List.reverse_reverse] at ih ⊢; rw [digVal_snoc, ih]; simp [valB]; omega

/-- digits without noughts ahead -/
def bareL : List UInt8 → List UInt8
  | x :: y :: r => if x = 48 then bareL (y :: r) else x :: y :: r
  | l => l

theorem trimT_nil_append {xs ys : List Nat} (h : trimT ys = []) : trimT (xs ++ ys) = trimT xs := by
  induction xs with
  | nil => simpa [trimT] using h
  | cons x xs ih => simp [trimT, ih]
theorem trimT_snoc {xs : List Nat} {y : Nat} (hy : y ≠ 0) : trimT (xs ++ [y]) = xs ++ [y] := by
  induction xs with
  | nil => simp [trimT, hy]
  | cons x xs ih =>
    simp only [List.cons_append, trimT, ih]
    cases xs <;> rfl

theorem bareL_eq : ∀ (ds : List Nat), ds ≠ [] → (∀ d ∈ ds, 48 ≤ d ∧ d ≤ 57) → bareL (ds.map UInt8.ofNat) = decText (digVal ds)
  | [], h, _ => absurd rfl h
  | [d], _, h => by
    have hd := h d (List.mem_cons_self ..)
    have e : digVal [d] = d - 48 := by simp [digVal]
    rw [e]
    simp only [List.map_cons, List.map_nil, bareL, decText]
    by_cases h0 : d - 48 = 0
    · rw [if_pos h0]; have : d = 48 := by omega
      subst this; rfl
    · rw [if_neg h0, dig_pos (by omega) h0, show (d - 48) / 10 = 0 by omega, dig_zero, show (d - 48) % 10 = d - 48 by omega]
      simp only [List.reverse_cons, List.reverse_nil, List.nil_append, List.map_cons, List.map_nil]
      rw [show 48 + (d - 48) = d by omega]
  | d :: e :: r, _, h => by
    have hd := h d (List.mem_cons_self ..)
    have ih := bareL_eq (e :: r) (by simp) (fun x hx => h x (List.mem_cons_of_mem _ hx))
    simp only [List.map_cons, bareL] at ih ⊢
    by_cases h0 : d = 48
    · subst h0
      rw [if_pos (by decide)]
      rw [ih]
      congr 1
    · have hne : UInt8.ofNat d ≠ 48 := by
        intro hc
        have := congrArg UInt8.toNat hc
        simp [UInt8.toNat_ofNat'] at this
        omega
      rw [if_neg hne]
      have hv := digVal_val (d :: e :: r)
      have hlt : ∀ x ∈ ((d :: e :: r).reverse.map (· - 48)), x < 10 := by
        intro x hx
        simp only [List.mem_map, List.mem_reverse] at hx
        obtain ⟨y, hy, rfl⟩ := hx
        have := h y hy
        omega
      have ht := trimT_eq (b := 10) (by omega) hlt
      rw [← hv] at ht
      have e2 : (d :: e :: r).reverse.map (· - 48) = ((e :: r).reverse.map (· - 48)) ++ [d - 48] := by simp
      rw [e2, trimT_snoc (by omega), ← e2] at ht
      have hn0 : digVal (d :: e :: r) ≠ 0 := by
        intro hc
        rw [hc, dig_zero] at ht
        simp at ht
      unfold decText
      rw [if_neg hn0, ← ht]
      simp only [List.map_reverse, List.reverse_reverse, List.map_map]
      show UInt8.ofNat d :: UInt8.ofNat e :: List.map UInt8.ofNat r = List.map _ (d :: e :: r)
      have hm : ∀ l : List Nat, (∀ x ∈ l, 48 ≤ x ∧ x ≤ 57) → l.map UInt8.ofNat = l.map ((fun d => UInt8.ofNat (48 + d)) ∘ fun x => x - 48) := by
        intro l hl
        refine List.map_congr_left fun x hx => ?_
        have := hl x hx
        simp only [Function.comp_apply]
        congr 1
        omega
      exact hm (d :: e :: r) h

/-- how many digits -/
theorem dig_len_le {b n k : Nat} (hb : 2 ≤ b) : (dig b n).length ≤ k ↔ n < b ^ k := by
  induction k generalizing n with
  | zero =>
    simp only [Nat.le_zero, List.length_eq_zero_iff, Nat.pow_zero]
    constructor
    · intro h
      by_cases hn : n = 0
      · omega
      · rw [dig_pos hb hn] at h; simp at h
    · intro h; rw [show n = 0 by omega, dig_zero]
  | succ k ih =>
    by_cases hn : n = 0
    · subst hn; simp [dig_zero]; exact Nat.pow_pos (by omega)
    · rw [dig_pos hb hn]
      simp only [List.length_cons, Nat.add_le_add_iff_right]
      rw [ih, Nat.pow_succ, Nat.div_lt_iff_lt_mul (by omega)]

end Go.Proofs.YtklhfbgmadblcaaDoor
