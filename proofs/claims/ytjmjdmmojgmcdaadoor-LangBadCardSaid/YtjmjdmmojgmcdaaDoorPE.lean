/- fresh: a name that is none of some. -/
import Derived.Test.YtjmjdmmojgmcdaaDoorPC
import Derived.Test.YtjmjdmmojgmcdaaDoorPD
namespace Go.Proofs.YtjmjdmmojgmcdaaDoor
open Go.RowKit
set_option linter.unusedVariables false
set_option linter.unusedSimpArgs false
attribute [local go_sem ↓] Go.wp_at_zero Go.wp_at_succ

/-- the i-th try -/
def qn (i : Nat) : List UInt8 := [113, UInt8.ofNat (48 + i)]
theorem qn_inj {i j : Nat} (hi : i < 10) (hj : j < 10) (h : qn i = qn j) : i = j := by
  simp only [qn, List.cons.injEq, and_true, true_and] at h
  have := congrArg UInt8.toNat h
  simp at this
  omega
theorem nodup_le : ∀ (l m : List Nat) (vars : List (List UInt8)), l.Nodup → (∀ i ∈ l, i < 10 ∧ qn i ∈ vars) → l.length ≤ vars.length
  | [], m, vars, _, _ => Nat.zero_le _
  | i :: l, m, vars, hn, h => by
    obtain ⟨h1, h2⟩ := List.nodup_cons.1 hn
    have hi := h i (by simp)
    have ih := nodup_le l m (vars.erase (qn i)) h2 (fun j hj => by
      have hj2 := h j (by simp [hj])
      refine ⟨hj2.1, (List.mem_erase_of_ne ?_).2 hj2.2⟩
      intro e
      have := qn_inj hj2.1 hi.1 e
      subst this
      exact h1 hj)
    have hl := List.length_erase_of_mem hi.2
    have hp : 0 < vars.length := List.length_pos_of_mem hi.2
    simp only [List.length_cons]
    omega
theorem fresh_nine {vars : List (List UInt8)} (hl : vars.length ≤ 8) (h : ∀ i < vars.length, qn i ∈ vars) : qn 9 ∉ vars := by
  intro h9
  have := nodup_le (9 :: List.range vars.length) [] vars (List.nodup_cons.2 ⟨by simp; omega, List.nodup_range⟩) (fun i hi => by
    rcases List.mem_cons.1 hi with rfl | hi
    · exact ⟨by omega, h9⟩
    · rw [List.mem_range] at hi
      exact ⟨by omega, h i hi⟩)
  simp at this
  omega
theorem ba_inj {x y : List UInt8} : (⟨x.toArray⟩ : ByteArray) = ⟨y.toArray⟩ ↔ x = y := by
  constructor
  · intro h
    have h1 := congrArg (fun b : ByteArray => b.data.toList) h
    simpa using h1
  · rintro rfl; rfl
theorem ba_beq (T S : ByteArray) : (T == S) = decide (T = S) := by
  cases T with
  | mk a =>
    cases S with
    | mk b =>
      first
      | (show (a == b) = _; by_cases h : a = b <;> simp [h]; done)
      | (show decide (_ = _) = _; rfl)
      | rfl
theorem qn_text (i : Nat) (hi : i < 10) : (⟨#[113]⟩ : ByteArray) ++ (⟨#[48, 49, 50, 51, 52, 53, 54, 55, 56, 57]⟩ : ByteArray).extract i (i + 1) = ⟨(qn i).toArray⟩ := by
  have : i = 0 ∨ i = 1 ∨ i = 2 ∨ i = 3 ∨ i = 4 ∨ i = 5 ∨ i = 6 ∨ i = 7 ∨ i = 8 ∨ i = 9 := by omega
  rcases this with rfl | rfl | rfl | rfl | rfl | rfl | rfl | rfl | rfl | rfl <;> decide +kernel
set_option maxRecDepth 100000 in
set_option maxHeartbeats 4000000 in
theorem fresh_calls {w : World} {B : Nat} {v : Value} {l : List (List UInt8)} (h : NmOwn w B v l) (hl : l.length ≤ 8) :
    Calls Tryd.prog 11 #[v] w fun e w' => ∃ i, i < 10 ∧ e = .returned (.string ⟨(qn i).toArray⟩) ∧ qn i ∉ l ∧ Fr No w w' := by
  unfold NmOwn at h
  obtain ⟨a, c, rfl⟩ := own_form h
  go_enter Tryd.func11, Tryd.ntmps11
  go_wp2_with fail
  go_loopg [3] l.length (fun gk x3 wr => ∃ i : Nat, gk = l.length - i ∧ i ≤ l.length ∧ x3 = .int .i64 i ∧ (∀ j < i, qn j ∈ l) ∧ Fr No w wr)
  case atStart => exact ⟨0, rfl, Nat.zero_le _, rfl, fun j hj => absurd hj (Nat.not_lt_zero _), Fr.refl _ _⟩
  case round =>
    obtain ⟨i, hgk, hi, rfl, hall, hf⟩ := hrel
    have HG := Lib.hid (And.intro hgk hall)
    clear hgk hall
    by_cases hlt : i < l.length
    · have i2 : (i : Int) < (l.length : Int) := by omega
      have hsz : (⟨#[48, 49, 50, 51, 52, 53, 54, 55, 56, 57]⟩ : ByteArray).size = 10 := by decide
      go_upto_region 5 with (fail)
      rw [qn_text i (by omega)]
      obtain ⟨S, hS⟩ : ∃ S, qn i = S := ⟨_, rfl⟩
      rw [hS]
      have HS := Lib.hid hS
      clear hS
      go_wp2_with fail
      obtain ⟨wo, rfl⟩ : ∃ wo : World, wo = wr := ⟨_, rfl⟩
      go_loopg [6, 5] l.length (fun gk x6 x5 wr => ∃ (k : Nat) (b : Bool), gk = l.length - k ∧ k ≤ l.length ∧ x6 = .int .i64 k ∧ x5 = .bool b ∧ (b = true ↔ qn i ∈ l.take k) ∧ Fr No w wr)
      case atStart => exact ⟨0, false, rfl, Nat.zero_le _, rfl, rfl, by simp, hf⟩
      case round =>
        clear hf
        obtain ⟨k, b, hgk2, hk, rfl, rfl, hb, hf⟩ := hrel
        have HK := Lib.hid (And.intro hgk2 hb)
        clear hgk2 hb
        by_cases hkl : k < l.length
        · obtain ⟨x, hx⟩ : ∃ x, l[k]? = some x := ⟨l[k], List.getElem?_eq_getElem hkl⟩
          have ho := own_fr h hf (fun _ _ x => x)
          have hxv : (l.map strV)[k]? = some (.string ⟨x.toArray⟩) := by simp [hx, strV]
          rcases own_cases ho with ⟨_, h9, _⟩ | ⟨g1, cap1, e1, _, hgl1, hcap1⟩
          · omega
          simp only [Value.slice.injEq] at e1
          obtain ⟨rfl, _, rfl⟩ := e1
          have d0 := own_cell ho hxv
          have k1 : (0 : Int) ≤ (k : Int) := by omega
          have k2 : (k : Int) < (l.length : Int) := by omega
          have htk : ∀ b', (b' = true ↔ (b = true ∨ x = qn i)) → (b' = true ↔ qn i ∈ l.take (k + 1)) := by
            intro b' hb'
            rw [hb', List.take_add_one, hx, HK.out.2]
            simp [eq_comm]
          have heq : x = S ↔ x = qn i := by rw [HS.out]
          have HX := Lib.hid (And.intro htk heq)
          clear hx hxv htk heq
          cases b with
          | true =>
            go_wp2_with fail
            go_roundg (l.length - (k + 1))
            case measure => rw [HK.out.1]; omega
            case rel => exact ⟨k + 1, true, rfl, by omega, by go_num, rfl, HX.out.1 true (by simp), hf⟩
          | false =>
            by_cases hTS : x = S
            · have ht : (x == S) = true := by rw [beq_iff_eq]; exact hTS
              go_wp2_with fail
              go_roundg (l.length - (k + 1))
              case measure => rw [HK.out.1]; omega
              case rel => exact ⟨k + 1, true, rfl, by omega, by go_num, rfl, HX.out.1 true (by simp [HX.out.2.1 hTS]), hf⟩
            · have ht : (x == S) = false := by rw [beq_eq_false_iff_ne]; exact hTS
              have hne : ¬ x = qn i := fun h => hTS (HX.out.2.2 h)
              go_wp2_with fail
              go_roundg (l.length - (k + 1))
              case measure => rw [HK.out.1]; omega
              case rel => exact ⟨k + 1, false, rfl, by omega, by go_num, rfl, HX.out.1 false (by simp [hne]), hf⟩
        · obtain rfl : k = l.length := by omega
          have k2 : ¬ ((l.length : Int) < (l.length : Int)) := by omega
          have hb := HK.out.2
          rw [List.take_length] at hb
          have HB := Lib.hid hb
          clear hb
          cases b with
          | true =>
            go_wp2_with fail
            go_roundg (l.length - (i + 1))
            case measure => rw [HG.out.1]; omega
            case rel =>
              refine ⟨i + 1, rfl, by omega, by go_num, fun j hj => ?_, hf⟩
              rcases Nat.lt_succ_iff_lt_or_eq.1 hj with hj | rfl
              · exact HG.out.2 j hj
              · exact HB.out.1 (by simp)
          | false =>
            go_wp2_with fail
            go_ret
            exact ⟨i, by omega, by rw [HS.out]; rfl, (fun h => by have := HB.out.2 h; simp at this), hf⟩
    · obtain rfl : i = l.length := by omega
      have i2 : ¬ ((l.length : Int) < (l.length : Int)) := by omega
      go_wp2_with fail
      go_ret
      exact ⟨9, by omega, rfl, fresh_nine hl HG.out.2, hf⟩
end Go.Proofs.YtjmjdmmojgmcdaaDoor
