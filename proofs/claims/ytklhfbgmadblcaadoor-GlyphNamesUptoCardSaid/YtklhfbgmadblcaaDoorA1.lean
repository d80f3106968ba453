/- Classes and folds: what the small functions of glyph and of its reference compute. -/
import Derived.Test.YtklhfbgmadblcaaDoorRows
import Derived.Test.YtklhfbgmadblcaaDoorLib
import Derived.Test.YtklhfbgmadblcaaDoorSpec
import Derived.Lib.Hide
namespace Go.Proofs.YtklhfbgmadblcaaDoor
open Go.RowKit





def among (c lo hi : Int) : Bool := decide (lo ≤ c ∧ c ≤ hi)
set_option maxHeartbeats 400000 in
theorem among_calls (c lo hi : Int) (w : World) :
    Calls Tryd.prog 34 #[.int .i64 c, .int .i64 lo, .int .i64 hi] w fun e w' => e = .returned (.bool (among c lo hi)) ∧ w = w' := by
  go_enter Tryd.func34, Tryd.ntmps34
  go_wp2
  all_goals
    go_ret
    exact ⟨ret_bool (by unfold among; simp <;> omega), rfl⟩

set_option maxHeartbeats 400000 in
theorem letter_calls (c : Int) (w : World) :
    Calls Tryd.prog 32 #[.int .i64 c] w fun e w' => e = .returned (.bool (isLetter c)) ∧ w = w' := by
  go_enter Tryd.func32, Tryd.ntmps32
  go_wp2
  all_goals
    go_ret
    exact ⟨ret_bool (by unfold isLetter; grind), rfl⟩

set_option maxHeartbeats 400000 in
theorem sign_calls (c : Int) (w : World) :
    Calls Tryd.prog 33 #[.int .i64 c] w fun e w' => e = .returned (.bool (isSign c)) ∧ w = w' := by
  go_enter Tryd.func33, Tryd.ntmps33
  go_wp2
  all_goals
    go_ret
    exact ⟨ret_bool (by unfold isSign; grind), rfl⟩

set_option maxHeartbeats 400000 in
theorem Class_calls (c : Int) (w : World) :
    Calls Tryd.prog 14 #[.int .i64 c] w fun e w' => e = .returned (.int .i64 (cls c)) ∧ w = w' := by
  go_enter Tryd.func14, Tryd.ntmps14
  go_wp2_with (first | (go_at_call 32; refine (letter_calls _ _).mono ?_; rintro e w' ⟨rfl, rfl⟩) | (go_at_call 33; refine (sign_calls _ _).mono ?_; rintro e w' ⟨rfl, rfl⟩))
  all_goals
    go_ret
    exact ⟨ret_int (by unfold cls isBlank isDigit isMark; grind), rfl⟩

set_option maxHeartbeats 400000 in
theorem Fold_calls (c : Int) (w : World) :
    Calls Tryd.prog 16 #[.int .i64 c] w fun e w' => e = .returned (.int .i64 (fold c)) ∧ w = w' := by
  go_enter Tryd.func16, Tryd.ntmps16
  go_wp2
  all_goals
    go_ret
    exact ⟨ret_int (by unfold fold; grind), rfl⟩

set_option maxHeartbeats 400000 in
theorem rFold_calls (c : Int) (w : World) :
    Calls Tryd.prog 17 #[.int .i64 c] w fun e w' => e = .returned (.int .i64 (fold c)) ∧ w = w' := by
  go_enter Tryd.func17, Tryd.ntmps17
  go_wp2
  all_goals
    go_ret
    exact ⟨ret_int (by unfold fold; grind), rfl⟩

def sg : List Nat := [43, 45, 42, 47, 37, 40, 41, 123, 125, 44, 59, 58, 61, 33, 63, 64]
abbrev sgs : ByteArray := { data := #[43, 45, 42, 47, 37, 40, 41, 123, 125, 44, 59, 58, 61, 33, 63, 64] }
theorem sgs_at (k : Nat) (h : k < 16) (h' : k < sgs.size) : wrap64 ((sgs[k]).toNat : Int) = (sg.getD k 0 : Nat) := by
  rw [wrap64_byte]
  have : k = 0 ∨ k = 1 ∨ k = 2 ∨ k = 3 ∨ k = 4 ∨ k = 5 ∨ k = 6 ∨ k = 7 ∨ k = 8 ∨ k = 9 ∨ k = 10 ∨ k = 11 ∨ k = 12 ∨ k = 13 ∨ k = 14 ∨ k = 15 := by omega
  rcases this with rfl | rfl | rfl | rfl | rfl | rfl | rfl | rfl | rfl | rfl | rfl | rfl | rfl | rfl | rfl | rfl <;> rfl
theorem cls_sg (k : Nat) (h : k < 16) : cls (sg.getD k 0 : Nat) = 5 := by
  have : k = 0 ∨ k = 1 ∨ k = 2 ∨ k = 3 ∨ k = 4 ∨ k = 5 ∨ k = 6 ∨ k = 7 ∨ k = 8 ∨ k = 9 ∨ k = 10 ∨ k = 11 ∨ k = 12 ∨ k = 13 ∨ k = 14 ∨ k = 15 := by omega
  rcases this with rfl | rfl | rfl | rfl | rfl | rfl | rfl | rfl | rfl | rfl | rfl | rfl | rfl | rfl | rfl | rfl <;> rfl
theorem not_sg {c : Int} (h : ∀ j, j < 16 → c ≠ (sg.getD j 0 : Nat)) : c ≠ 43 ∧ c ≠ 45 ∧ c ≠ 42 ∧ c ≠ 47 ∧ c ≠ 37 ∧ c ≠ 40 ∧ c ≠ 41 ∧ c ≠ 123 ∧ c ≠ 125 ∧ c ≠ 44 ∧ c ≠ 59 ∧ c ≠ 58 ∧ c ≠ 61 ∧ c ≠ 33 ∧ c ≠ 63 ∧ c ≠ 64 :=
  ⟨h 0 (by omega), h 1 (by omega), h 2 (by omega), h 3 (by omega), h 4 (by omega), h 5 (by omega), h 6 (by omega), h 7 (by omega), h 8 (by omega), h 9 (by omega), h 10 (by omega), h 11 (by omega), h 12 (by omega), h 13 (by omega), h 14 (by omega), h 15 (by omega)⟩

set_option maxHeartbeats 1000000 in
theorem rClass_calls (c : Int) (w : World) :
    Calls Tryd.prog 15 #[.int .i64 c] w fun e w' => e = .returned (.int .i64 (cls c)) ∧ w = w' := by
  go_enter Tryd.func15, Tryd.ntmps15
  go_wp2_with (first | (go_at_call 34; refine (among_calls _ _ _ _).mono ?_; rintro e w' ⟨rfl, rfl⟩))
  any_goals (go_ret; exact ⟨ret_int (by grind [cls, isBlank, isLetter, isDigit, isMark, isSign, among]), rfl⟩)
  go_loop [4] (fun i => ∃ k : Nat, k ≤ 16 ∧ i = .int .i64 k ∧ ∀ j, j < k → c ≠ (sg.getD j 0 : Nat)) (fun i => 16 - (intOf i).toNat)
  case atStart => exact ⟨0, by omega, rfl, fun j hj => by omega⟩
  case round =>
    obtain ⟨k, hk, rfl, hc⟩ := hrel
    have HC := Lib.hid hc
    clear hc
    by_cases hlt : k < 16
    · go_wp2
      · have h : (c == wrap64 ((sgs[k]'(by show k < 16; omega)).toNat : Int)) = true := by assumption
        go_ret
        rw [sgs_at k hlt] at h
        exact ⟨ret_int (by rw [beq_iff_eq.1 h, cls_sg k hlt]), rfl⟩
      · have h : (c == wrap64 ((sgs[k]'(by show k < 16; omega)).toNat : Int)) = false := by assumption
        rw [sgs_at k hlt] at h
        refine ⟨⟨k + 1, by omega, by go_num, fun j hj => ?_⟩, by simp [intOf]; omega⟩
        by_cases e : j = k
        · subst e; exact beq_eq_false_iff_ne.1 h
        · exact HC.out j (by omega)
    · go_wp2
      go_ret
      obtain rfl : k = 16 := by omega
      have hn := not_sg HC.out
      exact ⟨ret_int (by grind [cls, isBlank, isLetter, isDigit, isMark, isSign, among]), rfl⟩

end Go.Proofs.YtklhfbgmadblcaaDoor
