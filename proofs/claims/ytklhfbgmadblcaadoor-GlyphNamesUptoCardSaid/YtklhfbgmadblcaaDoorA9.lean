/- The reference: part, bare, Begin. -/
import Derived.Test.YtklhfbgmadblcaaDoorA5
import Derived.Test.YtklhfbgmadblcaaDoorA8
namespace Go.Proofs.YtklhfbgmadblcaaDoor
open Go.RowKit
set_option linter.unusedVariables false
set_option linter.unusedSimpArgs false

def partI (c : Int) : Bool := decide (0 ≤ c ∧ (cls c = 2 ∨ cls c = 3 ∨ cls c = 4))

set_option maxHeartbeats 400000 in
theorem part_calls (c : Int) (w : World) :
    Calls Tryd.prog 51 #[.int .i64 c] w fun e w' => e = .returned (.bool (partI c)) ∧ w = w' := by
  go_enter Tryd.func51, Tryd.ntmps51
  go_wp2_with (first | (go_at_call 15; refine (rClass_calls _ _).mono ?_; rintro e w' ⟨rfl, rfl⟩))
  all_goals
    go_ret
    exact ⟨ret_bool (by unfold partI; grind), rfl⟩

theorem bare_step {r : ByteArray} (h : 1 < r.size) (h0 : r[0] = 48) : bareL r.data.toList = bareL (r.extract 1 r.size).data.toList := by
  rw [Lib.extract_data, List.take_of_length_le (by rw [List.length_drop, ← Lib.size_eq]; exact Nat.le_refl _)]
  have hl := Lib.size_eq r
  have e0 : r.data.toList[0]? = some 48 := by
    rw [List.getElem?_eq_getElem (show 0 < r.data.toList.length by omega)]
    exact congrArg some h0
  cases hd : r.data.toList with
  | nil => rw [hd] at hl; simp only [List.length_nil] at hl; omega
  | cons x l =>
    rw [hd] at e0 hl
    simp at e0
    subst e0
    cases l with
    | nil => simp only [List.length_cons, List.length_nil] at hl; omega
    | cons y l => simp [bareL]
theorem bare_stop {r : ByteArray} (h : r.size ≤ 1 ∨ ∃ hh : 0 < r.size, r[0] ≠ 48) : bareL r.data.toList = r.data.toList := by
  have hl := Lib.size_eq r
  cases hd : r.data.toList with
  | nil => rfl
  | cons x l =>
    cases l with
    | nil => rfl
    | cons y l =>
      rw [hd] at hl
      simp only [List.length_cons] at hl
      rcases h with h | ⟨hh, h⟩
      · omega
      · have e0 : r.data.toList[0]? = some (r[0]) := by
          rw [List.getElem?_eq_getElem (by rw [hd]; simp)]; rfl
        rw [hd] at e0
        simp at e0
        simp only [bareL]
        rw [if_neg (by rw [e0]; exact h)]

set_option maxHeartbeats 1000000 in
theorem bare_calls (s : ByteArray) (w : World) (hs : s.size ≤ 4096) :
    Calls Tryd.prog 52 #[.string s] w fun e w' => e = .returned (.string ⟨(bareL s.data.toList).toArray⟩) ∧ Qd w w' := by
  go_enter Tryd.func52, Tryd.ntmps52
  go_wp2_with fail
  go_loopg [0] s.size (fun k x0 wr => wr = w ∧ ∃ r : ByteArray, r.size = k ∧ r.size ≤ s.size ∧ x0 = .string r ∧ bareL r.data.toList = bareL s.data.toList)
  case atStart => exact ⟨rfl, s, rfl, Nat.le_refl _, rfl, rfl⟩
  case round =>
    obtain ⟨rfl, r, hk, hle, rfl, hb⟩ := hrel
    have HK := Lib.hid hk
    have HB := Lib.hid hb
    clear hk hb
    by_cases h1 : 1 < r.size
    · have hu := (r[0]).toNat_lt
      by_cases h0 : r[0] = 48
      · have hn : (r[0]).toNat = 48 := by rw [h0]; rfl
        have HS := Lib.hid (bare_step h1 h0)
        clear h0
        go_wp2_with fail
        go_roundg (r.size - 1)
        case measure => have := HK.out; omega
        case rel => exact ⟨rfl, _, by simp, by simp; omega, rfl, by rw [← HS.out, HB.out]⟩
      · have hn : (((r[0]).toNat : Int) == 48) = false := by
          simp only [beq_eq_false_iff_ne, ne_eq]
          intro hc
          exact h0 (UInt8.toNat_inj.mp (by simpa using (by omega : (r[0]).toNat = 48)))
        have HS := Lib.hid (bare_stop (r := r) (Or.inr ⟨by omega, h0⟩))
        clear h0
        go_wp2_with fail
        go_ret
        exact ⟨ret_str (by rw [← HB.out, HS.out, Lib.mk_data]), Qd.refl _⟩
    · have HS := Lib.hid (bare_stop (r := r) (Or.inl (by omega)))
      go_wp2_with fail
      go_ret
      exact ⟨ret_str (by rw [← HB.out, HS.out, Lib.mk_data]), Qd.refl _⟩

set_option maxHeartbeats 400000 in
theorem Begin_calls (s : ByteArray) (w : World) :
    Calls Tryd.prog 35 #[.string s] w fun e w' => ∃ b, e = .returned (ptrV b) ∧ Rd w' b s [] ∧ w.heap.size ≤ b ∧ Fr No w w' := by
  go_enter Tryd.func35, Tryd.ntmps35
  go_wp2
  go_ret
  exact ⟨_, rfl, Blk.new _ _, Nat.le_refl _, (Fr.refl No w).alloc _⟩

end Go.Proofs.YtklhfbgmadblcaaDoor
