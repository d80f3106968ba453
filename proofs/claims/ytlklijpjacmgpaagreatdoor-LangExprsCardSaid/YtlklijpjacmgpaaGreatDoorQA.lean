/- The reference's numbers and scanner. -/
import Derived.Test.YtlklijpjacmgpaaGreatDoorGf
import Derived.Test.YtlklijpjacmgpaaGreatDoorGh
import GoSem.Core.Utf8
import Derived.Lib.Strings
import Derived.Lib.DecodeN
import Derived.Lib.RuneCount
import Derived.WalkKit
import Derived.WalkSpells
import Derived.WalkLawsBesides
import Derived.Lib.Hide
import Derived.Deep.Draws
import Derived.Deep.LoopGhost
import Derived.Deep.QuietTactic
import Derived.BigQuiet
import Derived.RegionTactic
import Derived.ChangeAlike
import Derived.StillTailTactics
import Derived.Deep.RegionWith
import Derived.Deep.RegionHeld3
import Derived.Deep.DrawnRows
namespace Go.Proofs.YtlklijpjacmgpaaGreatDoor
open Go

end Go.Proofs.YtlklijpjacmgpaaGreatDoor

namespace Go.Proofs.YtlklijpjacmgpaaGreatDoor
open Go
set_option linter.unusedVariables false
set_option linter.unusedSimpArgs false


end Go.Proofs.YtlklijpjacmgpaaGreatDoor

namespace Go.Proofs.YtlklijpjacmgpaaGreatDoor
open Go
set_option linter.unusedVariables false
set_option linter.unusedSimpArgs false

end Go.Proofs.YtlklijpjacmgpaaGreatDoor

namespace Go.Proofs.YtlklijpjacmgpaaGreatDoor
open Go
set_option linter.unusedVariables false
set_option linter.unusedSimpArgs false

end Go.Proofs.YtlklijpjacmgpaaGreatDoor

namespace Go.Proofs.YtlklijpjacmgpaaGreatDoor
open Go.RowKit
set_option linter.unusedVariables false
set_option linter.unusedSimpArgs false

end Go.Proofs.YtlklijpjacmgpaaGreatDoor

namespace Go.Proofs.YtlklijpjacmgpaaGreatDoor
open Go.RowKit
set_option linter.unusedVariables false
set_option linter.unusedSimpArgs false

end Go.Proofs.YtlklijpjacmgpaaGreatDoor

namespace Go.Proofs.YtlklijpjacmgpaaGreatDoor
open Go.RowKit

set_option maxHeartbeats 400000 in
theorem among_calls (c lo hi : Int) (w : World) :
    Calls Tryz.prog 148 #[.int .i64 c, .int .i64 lo, .int .i64 hi] w fun e w' => e = .returned (.bool (among c lo hi)) ∧ w = w' := by
  go_enter Tryz.func148, Tryz.ntmps148
  go_wp2
  all_goals
    go_ret
    exact ⟨ret_bool (by unfold among; simp <;> omega), rfl⟩
set_option maxHeartbeats 400000 in
theorem rFold_calls (c : Int) (w : World) :
    Calls Tryz.prog 119 #[.int .i64 c] w fun e w' => e = .returned (.int .i64 (fold c)) ∧ w = w' := by
  go_enter Tryz.func119, Tryz.ntmps119
  go_wp2
  all_goals
    go_ret
    exact ⟨ret_int (by unfold fold; grind), rfl⟩
set_option maxHeartbeats 1000000 in
theorem rClass_calls (c : Int) (w : World) :
    Calls Tryz.prog 114 #[.int .i64 c] w fun e w' => e = .returned (.int .i64 (cls c)) ∧ w = w' := by
  go_enter Tryz.func114, Tryz.ntmps114
  go_wp2_with (first | (go_at_call 148; refine (among_calls _ _ _ _).mono ?_; rintro e w' ⟨rfl, rfl⟩))
  any_goals (go_ret; exact ⟨ret_int (by grind [cls, isBlank, isLetter, isDigit, isMark, isSign, among]), rfl⟩)
  go_loop [4] (fun i => ∃ k : Nat, k ≤ 16 ∧ i = .int .i64 k ∧ ∀ j, j < k → c ≠ (sg.getD j 0 : Nat)) (fun i => 16 - (intOf i).toNat)
  case atStart => exact ⟨0, by omega, rfl, fun j hj => by omega⟩
  case round =>
    obtain ⟨k, hk, rfl, hc⟩ := hrel
    have HC := Lib.hid hc
    clear hc
    by_cases hlt : k < 16
    · go_wp2
      · have h : (c == wrap64 ((sgs[k]'(by show k < 16; omega)).toNat : Int)) = true := by assumption
        go_ret
        rw [sgs_at k hlt] at h
        exact ⟨ret_int (by rw [beq_iff_eq.1 h, cls_sg k hlt]), rfl⟩
      · have h : (c == wrap64 ((sgs[k]'(by show k < 16; omega)).toNat : Int)) = false := by assumption
        rw [sgs_at k hlt] at h
        refine ⟨⟨k + 1, by omega, by go_num, fun j hj => ?_⟩, by simp [intOf]; omega⟩
        by_cases e : j = k
        · subst e; exact beq_eq_false_iff_ne.1 h
        · exact HC.out j (by omega)
    · go_wp2
      go_ret
      obtain rfl : k = 16 := by omega
      have hn := not_sg HC.out
      exact ⟨ret_int (by grind [cls, isBlank, isLetter, isDigit, isMark, isSign, among]), rfl⟩
end Go.Proofs.YtlklijpjacmgpaaGreatDoor

namespace Go.Proofs.YtlklijpjacmgpaaGreatDoor
open Go.RowKit
set_option linter.unusedVariables false
set_option linter.unusedSimpArgs false

def rdO (S : ByteArray) (p : Pl) : Obj := .cells #[.string S, .int .i64 p.b, .int .i64 p.g, .int .i64 p.l, .int .i64 p.c] 147 (0, 0)
end Go.Proofs.YtlklijpjacmgpaaGreatDoor

namespace Go.Proofs.YtlklijpjacmgpaaGreatDoor
open Go.RowKit
set_option linter.unusedVariables false
set_option linter.unusedSimpArgs false

set_option maxRecDepth 100000 in
set_option maxHeartbeats 4000000 in
theorem point_two (S : ByteArray) (i : Nat) (w : World) (hi : i < S.size) (hS : S.size ≤ 4096) (h : 192 ≤ (S[i]).toNat ∧ (S[i]).toNat ≤ 223) :
    Calls Tryz.prog 147 #[.string S, .int .i64 i] w (Post S i w) := by
  have hb := (S[i]).toNat_lt
  have hd := drop_at hi
  have HD := Lib.hid hd
  clear hd
  have hlow : decide (((S[i]).toNat : Int) < 128) = false := by simp; omega
  have ha192 : among ((S[i]).toNat : Int) 192 223 = true := among_iff.2 (by omega)
  go_enter Tryz.func147, Tryz.ntmps147
  go_wp2_with (first | (go_at_call 148; refine (among_calls _ _ _ _).mono ?_; rintro e w' ⟨rfl, rfl⟩))
  go_loop [8, 10] (fun x8 x10 => ∃ k v : Nat, k + 1 ≤ 2 ∧ x10 = .int .i64 ((k + 1 : Nat) : Int) ∧ x8 = .int .i64 (v : Int) ∧ Ac S i ((S[i]).toNat - 192) k v ∧ Bd k v) (fun _ x10 => 2 - (intOf x10).toNat)
  case atStart => exact ⟨0, (S[i]).toNat - 192, by omega, rfl, by rw [show (((S[i]).toNat - 192 : Nat) : Int) = ((S[i]).toNat : Int) - 192 by omega], rfl, by unfold Bd; omega⟩
  case round =>
    obtain ⟨k, v, hk, rfl, rfl, hA, hB⟩ := hrel
    have HA := Lib.hid hA
    have hB' := hB.le
    have HB := Lib.hid hB
    clear hB hA
    by_cases hlt : k + 1 < 2
    · by_cases h1 : i + (k + 1) < S.size
      · have hu := (S[i + (k + 1)]).toNat_lt
        by_cases h2 : 128 ≤ (S[i + (k + 1)]).toNat ∧ (S[i + (k + 1)]).toNat ≤ 191
        · have hg : among ((S[i + (k + 1)]).toNat : Int) 128 191 = true := among_iff.2 (by omega)
          go_wp2_with (first | (go_at_call 148; refine (among_calls _ _ _ _).mono ?_; rintro e w' ⟨rfl, rfl⟩))
          go_round
          case rel => exact ⟨k + 1, _, by omega, by go_num, by rw [show (v : Int) * 64 + ((S[i + (k + 1)]).toNat : Int) - 128 = ((v * 64 + (S[i + (k + 1)]).toNat - 128 : Nat) : Int) by omega], HA.out.next h1 h2, HB.out.next (by omega) h2⟩
          case measure => simp [intOf]; omega
        · have hg : among ((S[i + (k + 1)]).toNat : Int) 128 191 = false := among_not.2 (by omega)
          go_wp2_with (first | (go_at_call 148; refine (among_calls _ _ _ _).mono ?_; rintro e w' ⟨rfl, rfl⟩))
          go_ret2
          have hz : dec (S.data.toList.drop i) = none := by rw [HD.out, dec_two (by omega), Ac.bad2 (v := v) h1 h2 (by omega)]; rfl
          exact ⟨by rw [hz]; rfl, rfl⟩
      · go_wp2_with (first | (go_at_call 148; refine (among_calls _ _ _ _).mono ?_; rintro e w' ⟨rfl, rfl⟩))
        go_ret2
        have hz : dec (S.data.toList.drop i) = none := by rw [HD.out, dec_two (by omega), Ac.bad (v := v) (k := k) (by omega) (by omega)]; rfl
        exact ⟨by rw [hz]; rfl, rfl⟩
    · obtain rfl : k = 2 - 1 := by omega
      have HE := Lib.hid (show dec (S.data.toList.drop i) = fin 2 128 v by rw [HD.out, dec_two (by omega)]; have h9 := HA.out; unfold Ac at h9; rw [h9]; rfl)
      by_cases q1 : (v : Int) < 128
      · go_wp2_with (first | (go_at_call 148; refine (among_calls _ _ _ _).mono ?_; rintro e w' ⟨rfl, rfl⟩))
        go_ret2
        exact ⟨by rw [HE.out, fin_no (Or.inl (by omega))]; rfl, rfl⟩
      · by_cases q2 : (v : Int) ≤ 1114111
        · by_cases q3 : among v 55296 57343 = true
          · go_wp2_with (first | (go_at_call 148; refine (among_calls _ _ _ _).mono ?_; rintro e w' ⟨rfl, rfl⟩))
            go_ret2
            exact ⟨by rw [HE.out, fin_no (Or.inr (Or.inr q3))]; rfl, rfl⟩
          · have q3 : among v 55296 57343 = false := by simpa using q3
            go_wp2_with (first | (go_at_call 148; refine (among_calls _ _ _ _).mono ?_; rintro e w' ⟨rfl, rfl⟩))
            go_ret2
            exact ⟨by rw [HE.out, fin_ok (by omega) q2 q3]; rfl, rfl⟩
        · go_wp2_with (first | (go_at_call 148; refine (among_calls _ _ _ _).mono ?_; rintro e w' ⟨rfl, rfl⟩))
          go_ret2
          exact ⟨by rw [HE.out, fin_no (Or.inr (Or.inl (by omega)))]; rfl, rfl⟩
set_option maxRecDepth 100000 in
set_option maxHeartbeats 4000000 in
theorem point_three (S : ByteArray) (i : Nat) (w : World) (hi : i < S.size) (hS : S.size ≤ 4096) (h : 224 ≤ (S[i]).toNat ∧ (S[i]).toNat ≤ 239) :
    Calls Tryz.prog 147 #[.string S, .int .i64 i] w (Post S i w) := by
  have hb := (S[i]).toNat_lt
  have hd := drop_at hi
  have HD := Lib.hid hd
  clear hd
  have hlow : decide (((S[i]).toNat : Int) < 128) = false := by simp; omega
  have ha192 : among ((S[i]).toNat : Int) 192 223 = false := among_not.2 (by omega)
  have ha224 : among ((S[i]).toNat : Int) 224 239 = true := among_iff.2 (by omega)
  go_enter Tryz.func147, Tryz.ntmps147
  go_wp2_with (first | (go_at_call 148; refine (among_calls _ _ _ _).mono ?_; rintro e w' ⟨rfl, rfl⟩))
  go_loop [8, 10] (fun x8 x10 => ∃ k v : Nat, k + 1 ≤ 3 ∧ x10 = .int .i64 ((k + 1 : Nat) : Int) ∧ x8 = .int .i64 (v : Int) ∧ Ac S i ((S[i]).toNat - 224) k v ∧ Bd k v) (fun _ x10 => 3 - (intOf x10).toNat)
  case atStart => exact ⟨0, (S[i]).toNat - 224, by omega, rfl, by rw [show (((S[i]).toNat - 224 : Nat) : Int) = ((S[i]).toNat : Int) - 224 by omega], rfl, by unfold Bd; omega⟩
  case round =>
    obtain ⟨k, v, hk, rfl, rfl, hA, hB⟩ := hrel
    have HA := Lib.hid hA
    have hB' := hB.le
    have HB := Lib.hid hB
    clear hB hA
    by_cases hlt : k + 1 < 3
    · by_cases h1 : i + (k + 1) < S.size
      · have hu := (S[i + (k + 1)]).toNat_lt
        by_cases h2 : 128 ≤ (S[i + (k + 1)]).toNat ∧ (S[i + (k + 1)]).toNat ≤ 191
        · have hg : among ((S[i + (k + 1)]).toNat : Int) 128 191 = true := among_iff.2 (by omega)
          go_wp2_with (first | (go_at_call 148; refine (among_calls _ _ _ _).mono ?_; rintro e w' ⟨rfl, rfl⟩))
          go_round
          case rel => exact ⟨k + 1, _, by omega, by go_num, by rw [show (v : Int) * 64 + ((S[i + (k + 1)]).toNat : Int) - 128 = ((v * 64 + (S[i + (k + 1)]).toNat - 128 : Nat) : Int) by omega], HA.out.next h1 h2, HB.out.next (by omega) h2⟩
          case measure => simp [intOf]; omega
        · have hg : among ((S[i + (k + 1)]).toNat : Int) 128 191 = false := among_not.2 (by omega)
          go_wp2_with (first | (go_at_call 148; refine (among_calls _ _ _ _).mono ?_; rintro e w' ⟨rfl, rfl⟩))
          go_ret2
          have hz : dec (S.data.toList.drop i) = none := by rw [HD.out, dec_three (by omega), Ac.bad2 (v := v) h1 h2 (by omega)]; rfl
          exact ⟨by rw [hz]; rfl, rfl⟩
      · go_wp2_with (first | (go_at_call 148; refine (among_calls _ _ _ _).mono ?_; rintro e w' ⟨rfl, rfl⟩))
        go_ret2
        have hz : dec (S.data.toList.drop i) = none := by rw [HD.out, dec_three (by omega), Ac.bad (v := v) (k := k) (by omega) (by omega)]; rfl
        exact ⟨by rw [hz]; rfl, rfl⟩
    · obtain rfl : k = 3 - 1 := by omega
      have HE := Lib.hid (show dec (S.data.toList.drop i) = fin 3 2048 v by rw [HD.out, dec_three (by omega)]; have h9 := HA.out; unfold Ac at h9; rw [h9]; rfl)
      by_cases q1 : (v : Int) < 2048
      · go_wp2_with (first | (go_at_call 148; refine (among_calls _ _ _ _).mono ?_; rintro e w' ⟨rfl, rfl⟩))
        go_ret2
        exact ⟨by rw [HE.out, fin_no (Or.inl (by omega))]; rfl, rfl⟩
      · by_cases q2 : (v : Int) ≤ 1114111
        · by_cases q3 : among v 55296 57343 = true
          · go_wp2_with (first | (go_at_call 148; refine (among_calls _ _ _ _).mono ?_; rintro e w' ⟨rfl, rfl⟩))
            go_ret2
            exact ⟨by rw [HE.out, fin_no (Or.inr (Or.inr q3))]; rfl, rfl⟩
          · have q3 : among v 55296 57343 = false := by simpa using q3
            go_wp2_with (first | (go_at_call 148; refine (among_calls _ _ _ _).mono ?_; rintro e w' ⟨rfl, rfl⟩))
            go_ret2
            exact ⟨by rw [HE.out, fin_ok (by omega) q2 q3]; rfl, rfl⟩
        · go_wp2_with (first | (go_at_call 148; refine (among_calls _ _ _ _).mono ?_; rintro e w' ⟨rfl, rfl⟩))
          go_ret2
          exact ⟨by rw [HE.out, fin_no (Or.inr (Or.inl (by omega)))]; rfl, rfl⟩
set_option maxRecDepth 100000 in
set_option maxHeartbeats 4000000 in
theorem point_four (S : ByteArray) (i : Nat) (w : World) (hi : i < S.size) (hS : S.size ≤ 4096) (h : 240 ≤ (S[i]).toNat ∧ (S[i]).toNat ≤ 247) :
    Calls Tryz.prog 147 #[.string S, .int .i64 i] w (Post S i w) := by
  have hb := (S[i]).toNat_lt
  have hd := drop_at hi
  have HD := Lib.hid hd
  clear hd
  have hlow : decide (((S[i]).toNat : Int) < 128) = false := by simp; omega
  have ha192 : among ((S[i]).toNat : Int) 192 223 = false := among_not.2 (by omega)
  have ha224 : among ((S[i]).toNat : Int) 224 239 = false := among_not.2 (by omega)
  have ha240 : among ((S[i]).toNat : Int) 240 247 = true := among_iff.2 (by omega)
  go_enter Tryz.func147, Tryz.ntmps147
  go_wp2_with (first | (go_at_call 148; refine (among_calls _ _ _ _).mono ?_; rintro e w' ⟨rfl, rfl⟩))
  go_loop [8, 10] (fun x8 x10 => ∃ k v : Nat, k + 1 ≤ 4 ∧ x10 = .int .i64 ((k + 1 : Nat) : Int) ∧ x8 = .int .i64 (v : Int) ∧ Ac S i ((S[i]).toNat - 240) k v ∧ Bd k v) (fun _ x10 => 4 - (intOf x10).toNat)
  case atStart => exact ⟨0, (S[i]).toNat - 240, by omega, rfl, by rw [show (((S[i]).toNat - 240 : Nat) : Int) = ((S[i]).toNat : Int) - 240 by omega], rfl, by unfold Bd; omega⟩
  case round =>
    obtain ⟨k, v, hk, rfl, rfl, hA, hB⟩ := hrel
    have HA := Lib.hid hA
    have hB' := hB.le
    have HB := Lib.hid hB
    clear hB hA
    by_cases hlt : k + 1 < 4
    · by_cases h1 : i + (k + 1) < S.size
      · have hu := (S[i + (k + 1)]).toNat_lt
        by_cases h2 : 128 ≤ (S[i + (k + 1)]).toNat ∧ (S[i + (k + 1)]).toNat ≤ 191
        · have hg : among ((S[i + (k + 1)]).toNat : Int) 128 191 = true := among_iff.2 (by omega)
          go_wp2_with (first | (go_at_call 148; refine (among_calls _ _ _ _).mono ?_; rintro e w' ⟨rfl, rfl⟩))
          go_round
          case rel => exact ⟨k + 1, _, by omega, by go_num, by rw [show (v : Int) * 64 + ((S[i + (k + 1)]).toNat : Int) - 128 = ((v * 64 + (S[i + (k + 1)]).toNat - 128 : Nat) : Int) by omega], HA.out.next h1 h2, HB.out.next (by omega) h2⟩
          case measure => simp [intOf]; omega
        · have hg : among ((S[i + (k + 1)]).toNat : Int) 128 191 = false := among_not.2 (by omega)
          go_wp2_with (first | (go_at_call 148; refine (among_calls _ _ _ _).mono ?_; rintro e w' ⟨rfl, rfl⟩))
          go_ret2
          have hz : dec (S.data.toList.drop i) = none := by rw [HD.out, dec_four (by omega), Ac.bad2 (v := v) h1 h2 (by omega)]; rfl
          exact ⟨by rw [hz]; rfl, rfl⟩
      · go_wp2_with (first | (go_at_call 148; refine (among_calls _ _ _ _).mono ?_; rintro e w' ⟨rfl, rfl⟩))
        go_ret2
        have hz : dec (S.data.toList.drop i) = none := by rw [HD.out, dec_four (by omega), Ac.bad (v := v) (k := k) (by omega) (by omega)]; rfl
        exact ⟨by rw [hz]; rfl, rfl⟩
    · obtain rfl : k = 4 - 1 := by omega
      have HE := Lib.hid (show dec (S.data.toList.drop i) = fin 4 65536 v by rw [HD.out, dec_four (by omega)]; have h9 := HA.out; unfold Ac at h9; rw [h9]; rfl)
      by_cases q1 : (v : Int) < 65536
      · go_wp2_with (first | (go_at_call 148; refine (among_calls _ _ _ _).mono ?_; rintro e w' ⟨rfl, rfl⟩))
        go_ret2
        exact ⟨by rw [HE.out, fin_no (Or.inl (by omega))]; rfl, rfl⟩
      · by_cases q2 : (v : Int) ≤ 1114111
        · by_cases q3 : among v 55296 57343 = true
          · go_wp2_with (first | (go_at_call 148; refine (among_calls _ _ _ _).mono ?_; rintro e w' ⟨rfl, rfl⟩))
            go_ret2
            exact ⟨by rw [HE.out, fin_no (Or.inr (Or.inr q3))]; rfl, rfl⟩
          · have q3 : among v 55296 57343 = false := by simpa using q3
            go_wp2_with (first | (go_at_call 148; refine (among_calls _ _ _ _).mono ?_; rintro e w' ⟨rfl, rfl⟩))
            go_ret2
            exact ⟨by rw [HE.out, fin_ok (by omega) q2 q3]; rfl, rfl⟩
        · go_wp2_with (first | (go_at_call 148; refine (among_calls _ _ _ _).mono ?_; rintro e w' ⟨rfl, rfl⟩))
          go_ret2
          exact ⟨by rw [HE.out, fin_no (Or.inr (Or.inl (by omega)))]; rfl, rfl⟩
set_option maxRecDepth 100000 in
set_option maxHeartbeats 4000000 in
theorem point_calls (S : ByteArray) (i : Nat) (w : World) (hi : i < S.size) (hS : S.size ≤ 4096) :
    Calls Tryz.prog 147 #[.string S, .int .i64 i] w (Post S i w) := by
  by_cases h2 : 192 ≤ (S[i]).toNat ∧ (S[i]).toNat ≤ 223
  · exact point_two S i w hi hS h2
  by_cases h3 : 224 ≤ (S[i]).toNat ∧ (S[i]).toNat ≤ 239
  · exact point_three S i w hi hS h3
  by_cases h4 : 240 ≤ (S[i]).toNat ∧ (S[i]).toNat ≤ 247
  · exact point_four S i w hi hS h4
  have hb := (S[i]).toNat_lt
  have hd := drop_at hi
  have HD := Lib.hid hd
  clear hd
  have ha1 : among ((S[i]).toNat : Int) 192 223 = false := among_not.2 (by omega)
  have ha2 : among ((S[i]).toNat : Int) 224 239 = false := among_not.2 (by omega)
  have ha3 : among ((S[i]).toNat : Int) 240 247 = false := among_not.2 (by omega)
  by_cases h1 : (S[i]).toNat < 128
  · go_enter Tryz.func147, Tryz.ntmps147
    go_wp2
    go_ret2
    refine ⟨?_, rfl⟩
    rw [HD.out, dec_one (by omega)]; rfl
  · go_enter Tryz.func147, Tryz.ntmps147
    go_wp2_with (first | (go_at_call 148; refine (among_calls _ _ _ _).mono ?_; rintro e w' ⟨rfl, rfl⟩))
    go_ret2
    refine ⟨?_, rfl⟩
    rw [HD.out, dec_else (by omega) (by omega)]; rfl
end Go.Proofs.YtlklijpjacmgpaaGreatDoor

namespace Go.Proofs.YtlklijpjacmgpaaGreatDoor
open Go.RowKit
set_option linter.unusedVariables false
set_option linter.unusedSimpArgs false

theorem point_some {S : ByteArray} {i c n : Nat} (hi : i < S.size) (hS : S.size ≤ 4096) (hd : dec (S.data.toList.drop i) = some (c, n)) (w : World) :
    Calls Tryz.prog 147 #[.string S, .int .i64 i] w fun e w' => e = .returned (.tuple #[.int .i64 c, .int .i64 n]) ∧ w' = w :=
  (point_calls S i w hi hS).mono fun e w' ⟨h1, h2⟩ => ⟨by rw [h1, hd]; rfl, h2.symm⟩
theorem point_none {S : ByteArray} {i : Nat} (hi : i < S.size) (hS : S.size ≤ 4096) (hd : dec (S.data.toList.drop i) = none) (w : World) :
    Calls Tryz.prog 147 #[.string S, .int .i64 i] w fun e w' => e = .returned (.tuple #[.int .i64 0, .int .i64 0]) ∧ w' = w :=
  (point_calls S i w hi hS).mono fun e w' ⟨h1, h2⟩ => ⟨by rw [h1, hd]; rfl, h2.symm⟩
set_option maxHeartbeats 400000 in
theorem End_calls (b : Nat) (S : ByteArray) (p : Pl) (w : World) (hS : S.size ≤ 4096) (hb : Blk w b (rdO S p)) :
    Calls Tryz.prog 146 #[ptrV b] w fun e w' => e = .returned (.bool (decide ((S.size : Int) ≤ p.b))) ∧ Qd w w' := by
  have h0 : w.cell? ⟨b, 0, none⟩ = some (.string S) := hb.cell 0 _ rfl
  have h1 : w.cell? ⟨b, 1, none⟩ = some (.int .i64 p.b) := hb.cell 1 _ rfl
  go_enter Tryz.func146, Tryz.ntmps146
  go_wp2
  go_quiet (fail)
  go_wp2
  go_ret
  exact ⟨by simp, _, rfl⟩
set_option maxHeartbeats 400000 in
theorem Look_calls (b : Nat) (S : ByteArray) (p : Pl) (w : World) (hS : S.size ≤ 4096) (hb : Blk w b (rdO S p)) :
    Calls Tryz.prog 113 #[ptrV b] w fun e w' => e = .returned (.int .i64 (lookV S p.b)) ∧ Qd w w' := by
  by_cases hlt : S.size ≤ p.b
  · go_enter Tryz.func113, Tryz.ntmps113
    go_wp2_with fail
    refine (End_calls b S p _ hS hb).mono ?_
    rintro e w' ⟨rfl, hq⟩
    go_wp2
    go_ret
    exact ⟨ret_int (by unfold lookV; rw [if_pos hlt]), hq⟩
  · cases hd : dec (S.data.toList.drop p.b) with
    | none =>
      have HD := Lib.hid hd
      clear hd
      go_enter Tryz.func113, Tryz.ntmps113
      go_wp2_with fail
      refine (End_calls b S p _ hS hb).mono ?_
      rintro e w1 ⟨rfl, hq⟩
      have hb1 := hq.blk hb
      have h0 : w1.cell? ⟨b, 0, none⟩ = some (.string S) := hb1.cell 0 _ rfl
      have h1 : w1.cell? ⟨b, 1, none⟩ = some (.int .i64 p.b) := hb1.cell 1 _ rfl
      clear hb hb1
      go_wp2_with fail
      go_quiet ((go_at_call 147; exact Calls.quiet_of_same (point_none (by omega) hS HD.out _)))
      go_wp2
      go_ret
      exact ⟨ret_int (by unfold lookV; rw [if_neg hlt, HD.out]), hq.trans ⟨_, rfl⟩⟩
    | some q =>
      obtain ⟨c, n⟩ := q
      have hn := dec_pos hd
      have HD := Lib.hid hd
      have hz : ((n : Int) == 0) = false := by simp; omega
      clear hd
      go_enter Tryz.func113, Tryz.ntmps113
      go_wp2_with fail
      refine (End_calls b S p _ hS hb).mono ?_
      rintro e w1 ⟨rfl, hq⟩
      have hb1 := hq.blk hb
      have h0 : w1.cell? ⟨b, 0, none⟩ = some (.string S) := hb1.cell 0 _ rfl
      have h1 : w1.cell? ⟨b, 1, none⟩ = some (.int .i64 p.b) := hb1.cell 1 _ rfl
      clear hb hb1
      go_wp2_with fail
      go_quiet ((go_at_call 147; exact Calls.quiet_of_same (point_some (by omega) hS HD.out _)))
      go_wp2
      go_ret
      exact ⟨ret_int (by unfold lookV; rw [if_neg hlt, HD.out]), hq.trans ⟨_, rfl⟩⟩
set_option maxHeartbeats 1000000 in
theorem Next_calls (b : Nat) (S : ByteArray) (p : Pl) (c n : Nat) (w : World) (hS : S.size ≤ 4096) (hp : p.fits 4096) (hlt : p.b < S.size) (hd : dec (S.data.toList.drop p.b) = some (c, n)) (hb : Blk w b (rdO S p)) :
    Calls Tryz.prog 115 #[ptrV b] w fun e w' => e = .returned (.tuple #[]) ∧ Blk w' b (rdO S (behind p c)) ∧ Fr (· = b) w w' := by
  obtain ⟨p1, p2, p3, p4⟩ := hp
  have hn := dec_pos hd
  have hn2 := dec_le hd
  have hn3 := (dec_spec hd).2.1
  simp only [List.length_drop, ← Lib.size_eq] at hn2
  have HD := Lib.hid hd
  have HN := Lib.hid hn3
  have h0 : w.cell? ⟨b, 0, none⟩ = some (.string S) := hb.cell 0 _ rfl
  have h1 : w.cell? ⟨b, 1, none⟩ = some (.int .i64 p.b) := hb.cell 1 _ rfl
  have h2 : w.cell? ⟨b, 2, none⟩ = some (.int .i64 p.g) := hb.cell 2 _ rfl
  have h3 : w.cell? ⟨b, 3, none⟩ = some (.int .i64 p.l) := hb.cell 3 _ rfl
  have h4 : w.cell? ⟨b, 4, none⟩ = some (.int .i64 p.c) := hb.cell 4 _ rfl
  have f1 := hb.free 1
  have f2 := hb.free 2
  have f3 := hb.free 3
  have f4 := hb.free 4
  clear hd hn3
  by_cases h10 : c = 10
  · subst h10
    go_enter Tryz.func115, Tryz.ntmps115
    go_wp2_with fail
    go_quiet ((go_at_call 147; exact Calls.quiet_of_same (point_some (by omega) hS HD.out _)))
    go_wp2
    go_end0
    refine ⟨rfl, ((((((hb.drewN _).setOff 1 _).setOff 2 _).setOff 4 _).setOff 3 _).setOff 4 _).cast ?_, by (with_reducible repeat (first | refine Fr.setCell ?_ _ (fun _ => rfl) | refine Fr.drewN ?_ _ | exact Fr.refl _ _))⟩
    have hN := HN.out
    simp [rdO, behind]
    omega
  · have hz : ((c : Int) == 10) = false := by simp; omega
    go_enter Tryz.func115, Tryz.ntmps115
    go_wp2_with fail
    go_quiet ((go_at_call 147; exact Calls.quiet_of_same (point_some (by omega) hS HD.out _)))
    go_wp2
    go_end0
    refine ⟨rfl, ((((hb.drewN _).setOff 1 _).setOff 2 _).setOff 4 _).cast ?_, by (with_reducible repeat (first | refine Fr.setCell ?_ _ (fun _ => rfl) | refine Fr.drewN ?_ _ | exact Fr.refl _ _))⟩
    have hN := HN.out
    simp [rdO, behind, h10]
    omega
end Go.Proofs.YtlklijpjacmgpaaGreatDoor

namespace Go.Proofs.YtlklijpjacmgpaaGreatDoor
open Go.RowKit
set_option linter.unusedVariables false
set_option linter.unusedSimpArgs false

/-- the reader stands behind pre -/
def Rd (w : World) (b : Nat) (S : ByteArray) (pre : List Nat) : Prop := Blk w b (rdO S (along start pre))
theorem Look_at {S : ByteArray} {pre cs : List Nat} {t : List UInt8} (T : Txt S.data.toList (pre ++ cs) t) (hS : S.size ≤ 4096) {w : World} {b : Nat} (hb : Rd w b S pre) :
    Calls Tryz.prog 113 #[ptrV b] w fun e w' => e = .returned (.int .i64 (lk (!t.isEmpty) cs)) ∧ Qd w w' := by
  rw [← look_at T]; exact Look_calls b S _ w hS hb
theorem Look_is {S : ByteArray} {pre cs : List Nat} {t : List UInt8} (T : Txt S.data.toList (pre ++ cs) t) (hS : S.size ≤ 4096) {w : World} {b : Nat} (hb : Rd w b S pre) {v : Int} (hv : lk (!t.isEmpty) cs = v) :
    Calls Tryz.prog 113 #[ptrV b] w fun e w' => e = .returned (.int .i64 v) ∧ Qd w w' := hv ▸ Look_at T hS hb
theorem Next_at {S : ByteArray} {pre cs : List Nat} {c : Nat} {t : List UInt8} (T : Txt S.data.toList (pre ++ c :: cs) t) (hS : S.size ≤ 4096) {w : World} {b : Nat} (hb : Rd w b S pre) :
    Calls Tryz.prog 115 #[ptrV b] w fun e w' => e = .returned (.tuple #[]) ∧ Rd w' b S (pre ++ [c]) ∧ Fr (· = b) w w' := by
  have D := drop_pre T
  have hl := T.len
  have hbb := along_b start pre
  have hs : start.b = 0 := rfl
  have := enc_pos c
  simp only [List.flatMap_append, List.length_append, List.flatMap_cons, ← Lib.size_eq] at hl
  refine (Next_calls b S _ c _ w hS (fits_pre T hS) (by omega) D.dec_cons.1 hb).mono ?_
  rintro e w' ⟨h1, h2, h3⟩
  refine ⟨h1, ?_, h3⟩
  unfold Rd
  rw [along_append]
  exact h2
theorem Rd.qd {w w' : World} {b : Nat} {S : ByteArray} {pre : List Nat} (h : Rd w b S pre) (q : Qd w w') : Rd w' b S pre := q.blk h
set_option maxHeartbeats 2000000 in
theorem spaces_calls {S : ByteArray} {pre cs : List Nat} {t : List UInt8} (T : Txt S.data.toList (pre ++ cs) t) (hS : S.size ≤ 4096) {w : World} {b : Nat} (hb : Rd w b S pre) :
    Calls Tryz.prog 73 #[ptrV b] w fun e w' => e = .returned (.int .i64 (spErr (!t.isEmpty) (skipC false cs))) ∧ Rd w' b S (pre ++ skipped cs) ∧ Fr (· = b) w w' := by
  go_enter Tryz.func73, Tryz.ntmps73
  go_wp2_with fail
  go_loopg [3] cs.length (fun k x3 wr => ∃ (mid rest : List Nat) (cm : Bool), cs = mid ++ rest ∧ rest.length = k ∧ x3 = .bool cm ∧ skipC cm rest = skipC false cs ∧ Rd wr b S (pre ++ mid) ∧ Fr (· = b) w wr)
  case atStart => exact ⟨[], cs, false, rfl, rfl, rfl, rfl, by rw [List.append_nil]; exact hb, Fr.refl _ _⟩
  case round =>
    obtain ⟨mid, rest, cm, hsp, hk, rfl, hsk, hrd, hfr⟩ := hrel
    have T1 : Txt S.data.toList ((pre ++ mid) ++ rest) t := by rw [List.append_assoc, ← hsp]; exact T
    have A := Lib.hid (And.intro hsp (And.intro hk hsk))
    clear hsp hk hsk
    cases rest with
    | nil =>
      cases hB : (!t.isEmpty) with
      | true =>
        have HB := Lib.hid hB
        clear hB
        go_wp2_with fail
        refine (Look_is (v := -2) T1 hS hrd (by rw [HB.out]; rfl)).mono ?_
        rintro e w1 ⟨rfl, hq1⟩
        go_wp2_with fail
        go_ret
        obtain ⟨h1, h2, h3⟩ := A.out
        rw [skip_all h1 h3, ← h3]
        exact ⟨ret_int (by rw [HB.out]; rfl), hrd.qd hq1, hfr.qd hq1⟩
      | false =>
        have HB := Lib.hid hB
        clear hB
        go_wp2_with fail
        refine (Look_is (v := -1) T1 hS hrd (by rw [HB.out]; rfl)).mono ?_
        rintro e w1 ⟨rfl, hq1⟩
        go_wp2_with fail
        go_ret
        obtain ⟨h1, h2, h3⟩ := A.out
        rw [skip_all h1 h3, ← h3]
        exact ⟨ret_int (by rw [HB.out]; rfl), hrd.qd hq1, hfr.qd hq1⟩
    | cons c rest =>
      have hcn : ((c : Int) == -2) = false := by simp
      have hcm : ((c : Int) == -1) = false := by simp
      by_cases h10 : c = 10
      · have k10 : ((c : Int) == 10) = true := by simp; omega
        have k6 : (cls c == 6) = false := by rw [h10]; decide
        have k1 : (cls c != 1) = false := by rw [h10]; decide
        have SK := Lib.hid (show skipC cm (c :: rest) = skipC false rest by simp [skipC, h10])
        go_wp2_with fail
        refine (Look_is (v := (c : Int)) T1 hS hrd rfl).mono ?_
        rintro e w1 ⟨rfl, hq1⟩
        have hrd1 := hrd.qd hq1
        go_wp2_with fail
        refine (rClass_calls _ _).mono ?_
        rintro e w' ⟨rfl, rfl⟩
        go_wp2_with fail
        refine (rClass_calls _ _).mono ?_
        rintro e w' ⟨rfl, rfl⟩
        go_wp2_with fail
        refine (Next_at T1 hS hrd1).mono ?_
        rintro e w2 ⟨rfl, hrd2, hfr2⟩
        go_wp2_with fail
        obtain ⟨h1, h2, h3⟩ := A.out
        go_roundg rest.length
        case measure => simp at h2; omega
        case rel => exact ⟨mid ++ [c], rest, false, by rw [h1]; simp, rfl, rfl, by rw [← h3, SK.out], by rw [← List.append_assoc]; exact hrd2, (hfr.qd hq1).call hfr2 (fun _ _ x => x)⟩
      · have k10 : ((c : Int) == 10) = false := by simp; omega
        by_cases h6 : cls c = 6
        · have k6 : (cls c == 6) = true := by simp [h6]
          have SK := Lib.hid (show skipC cm (c :: rest) = skipC true rest by simp [skipC, h10, h6])
          clear h6
          go_wp2_with fail
          refine (Look_is (v := (c : Int)) T1 hS hrd rfl).mono ?_
          rintro e w1 ⟨rfl, hq1⟩
          have hrd1 := hrd.qd hq1
          go_wp2_with fail
          refine (rClass_calls _ _).mono ?_
          rintro e w' ⟨rfl, rfl⟩
          go_wp2_with fail
          refine (Next_at T1 hS hrd1).mono ?_
          rintro e w2 ⟨rfl, hrd2, hfr2⟩
          go_wp2_with fail
          obtain ⟨h1, h2, h3⟩ := A.out
          go_roundg rest.length
          case measure => simp at h2; omega
          case rel => exact ⟨mid ++ [c], rest, true, by rw [h1]; simp, rfl, rfl, by rw [← h3, SK.out], by rw [← List.append_assoc]; exact hrd2, (hfr.qd hq1).call hfr2 (fun _ _ x => x)⟩
        · have k6 : (cls c == 6) = false := by simp [h6]
          cases cm with
          | true =>
            have SK := Lib.hid (show skipC true (c :: rest) = skipC true rest by simp [skipC, h10, h6])
            clear h6
            go_wp2_with fail
            refine (Look_is (v := (c : Int)) T1 hS hrd rfl).mono ?_
            rintro e w1 ⟨rfl, hq1⟩
            have hrd1 := hrd.qd hq1
            go_wp2_with fail
            refine (rClass_calls _ _).mono ?_
            rintro e w' ⟨rfl, rfl⟩
            go_wp2_with fail
            refine (Next_at T1 hS hrd1).mono ?_
            rintro e w2 ⟨rfl, hrd2, hfr2⟩
            go_wp2_with fail
            obtain ⟨h1, h2, h3⟩ := A.out
            go_roundg rest.length
            case measure => simp at h2; omega
            case rel => exact ⟨mid ++ [c], rest, true, by rw [h1]; simp, rfl, rfl, by rw [← h3, SK.out], by rw [← List.append_assoc]; exact hrd2, (hfr.qd hq1).call hfr2 (fun _ _ x => x)⟩
          | false =>
            by_cases h1 : cls c = 1
            · have k1 : (cls c != 1) = false := by simp [h1]
              have SK := Lib.hid (show skipC false (c :: rest) = skipC false rest by simp [skipC, h10, h6, h1])
              clear h1 h6
              go_wp2_with fail
              refine (Look_is (v := (c : Int)) T1 hS hrd rfl).mono ?_
              rintro e w1 ⟨rfl, hq1⟩
              have hrd1 := hrd.qd hq1
              go_wp2_with fail
              refine (rClass_calls _ _).mono ?_
              rintro e w' ⟨rfl, rfl⟩
              go_wp2_with fail
              refine (rClass_calls _ _).mono ?_
              rintro e w' ⟨rfl, rfl⟩
              go_wp2_with fail
              refine (Next_at T1 hS hrd1).mono ?_
              rintro e w2 ⟨rfl, hrd2, hfr2⟩
              go_wp2_with fail
              obtain ⟨h1, h2, h3⟩ := A.out
              go_roundg rest.length
              case measure => simp at h2; omega
              case rel => exact ⟨mid ++ [c], rest, false, by rw [h1]; simp, rfl, rfl, by rw [← h3, SK.out], by rw [← List.append_assoc]; exact hrd2, (hfr.qd hq1).call hfr2 (fun _ _ x => x)⟩
            · have k1 : (cls c != 1) = true := by simp [h1]
              have SK := Lib.hid (show skipC false (c :: rest) = c :: rest by simp [skipC, h10, h6, h1])
              clear h1 h6
              go_wp2_with fail
              refine (Look_is (v := (c : Int)) T1 hS hrd rfl).mono ?_
              rintro e w1 ⟨rfl, hq1⟩
              have hrd1 := hrd.qd hq1
              go_wp2_with fail
              refine (rClass_calls _ _).mono ?_
              rintro e w' ⟨rfl, rfl⟩
              go_wp2_with fail
              refine (rClass_calls _ _).mono ?_
              rintro e w' ⟨rfl, rfl⟩
              go_wp2_with fail
              go_ret
              obtain ⟨h1, h2, h3⟩ := A.out
              rw [skip_all h1 (by rw [← h3, SK.out]), ← h3]
              exact ⟨ret_int (by rw [SK.out]; rfl), hrd1, hfr.qd hq1⟩
end Go.Proofs.YtlklijpjacmgpaaGreatDoor

namespace Go.Proofs.YtlklijpjacmgpaaGreatDoor
open Go.RowKit
set_option linter.unusedVariables false
set_option linter.unusedSimpArgs false

set_option maxHeartbeats 1000000 in
theorem cut_calls (B : Nat) (v : Value) (xs : List Nat) (w : World) (hl : xs.length ≤ 1000000000) (h : w.ownsRow B 3 1 v xs.length (i64s xs)) :
    Calls Tryz.prog 150 #[v] w fun e w' => ∃ a c, e = .returned (.slice a (trimT xs).length c) ∧ w'.ownsRow B 3 1 (.slice a (trimT xs).length c) (trimT xs).length (i64s (trimT xs)) ∧ (Value.slice a (trimT xs).length c).ownBlock = v.ownBlock ∧ Qd w w' := by
  rcases own_cases h with ⟨rfl, hn, hx⟩ | ⟨g, cap, rfl, hB, hg, hcap⟩
  · have hxs : xs = [] := by simpa [i64s] using hx
    subst hxs
    go_enter Tryz.func150, Tryz.ntmps150
    go_wp2_with fail
    go_loopg [3] 0 (fun r x3 wr => wr = w ∧ x3 = .int .i64 0)
    case atStart => exact ⟨rfl, rfl⟩
    case round =>
      obtain ⟨rfl, rfl⟩ := hrel
      go_wp2_with fail
      go_ret
      exact ⟨_, _, rfl, h, rfl, Qd.refl _⟩
  · go_enter Tryz.func150, Tryz.ntmps150
    go_wp2_with fail
    go_loopg [3] xs.length (fun r x3 wr => wr = w ∧ ∃ k : Nat, r = k ∧ k ≤ xs.length ∧ x3 = .int .i64 k ∧ ∀ j, k ≤ j → j < xs.length → xs[j]? = some 0)
    case atStart => exact ⟨rfl, xs.length, rfl, Nat.le_refl _, rfl, fun j h1 h2 => by omega⟩
    case round =>
      obtain ⟨rfl, k, hr, hk, rfl, hz⟩ := hrel
      have HR := Lib.hid hr
      have HZ := Lib.hid hz
      clear hr hz
      cases k with
      | zero =>
        go_wp2_with fail
        go_ret
        have ht := trimT_at (Nat.zero_le _) HZ.out (Or.inl rfl)
        have ho := own_take h (Nat.zero_le xs.length)
        rw [ht]
        exact ⟨_, _, rfl, by simpa [i64s] using ho, rfl, Qd.refl _⟩
      | succ m =>
        have hm : xs[m]? = some (xs[m]'(by omega)) := List.getElem?_eq_getElem (by omega)
        have hc := own_cell h (i64s_get hm)
        have HM := Lib.hid hm
        clear hm
        by_cases h0 : xs[m]'(by omega) = 0
        · go_wp2_with fail
          go_roundg m
          case measure => have := HR.out; omega
          case rel => exact ⟨rfl, m, rfl, by omega, rfl, fun j h1 h2 => by
            by_cases e : j = m
            · subst e; rw [HM.out, h0]
            · exact HZ.out j (by omega) h2⟩
        · go_wp2_with fail
          go_ret
          have ht := trimT_at (k := m + 1) (by omega) HZ.out (Or.inr ⟨_, HM.out, h0⟩)
          have ho := own_take h (k := m + 1) (by omega)
          rw [ht, List.length_take, Nat.min_eq_left (by omega), ← i64s_take]
          exact ⟨_, _, rfl, by simpa using ho, rfl, Qd.refl _⟩
set_option maxHeartbeats 1000000 in
theorem made_false (B : Nat) (v : Value) (xs : List Nat) (w : World) (hl : xs.length ≤ 1000000000) (h : w.ownsRow B 3 1 v xs.length (i64s xs)) :
    Calls Tryz.prog 123 #[.bool false, v] w fun e w' => ∃ a c, e = .returned (nV false (.slice a (trimT xs).length c)) ∧ w'.ownsRow B 3 1 (.slice a (trimT xs).length c) (trimT xs).length (i64s (trimT xs)) ∧ (Value.slice a (trimT xs).length c).ownBlock = v.ownBlock ∧ Fr No w w' := by
  go_enter Tryz.func123, Tryz.ntmps123
  go_wp2_with fail
  refine (cut_calls B v xs _ hl (h.alloc _)).mono ?_
  rintro e w1 ⟨a, c, rfl, ho, hb, hq⟩
  obtain ⟨k, rfl⟩ := hq
  go_wp2_with fail
  have hne : (Value.slice a (trimT xs).length c).ownBlock ≠ some w.heap.size := fun hk => by
    rw [hb] at hk; have := (h.lt _ hk).2; omega
  refine bodyPost_ret (v := nV false (.slice a (trimT xs).length c)) (by simp [results, Tryz.results123, go_sem, nV]) rfl ⟨a, c, rfl, ?_, hb, ?_⟩
  · exact ownsRow_setCell_other (ownsRow_setCell_other ho hne _) hne _
  · with_reducible repeat (first | refine Fr.setCell ?_ _ (fun hh => absurd hh (Nat.lt_irrefl _)) | refine Fr.drewN ?_ _ | refine Fr.alloc ?_ _ | exact Fr.refl _ _)
set_option maxRecDepth 100000 in
set_option maxHeartbeats 1000000 in
theorem cutBy_calls (B : Nat) (a0 : Option Addr) (c0 : Nat) (xs : List Nat) (k : Nat) (w : World) (hl : xs.length ≤ 1000000) (hk : 0 < k) (hk2 : k ≤ 4294967296) (hx : ∀ x ∈ xs, x < 10000) (h : w.ownsRow B 3 1 (.slice a0 xs.length c0) xs.length (i64s xs)) :
    Calls Tryz.prog 131 #[.slice a0 xs.length c0, .int .i64 k] w fun e w' => ∃ a c, e = .returned (.tuple #[.slice a (dig 10000 (valB 10000 xs / k)).length c, .int .i64 ((valB 10000 xs % k : Nat) : Int)]) ∧
      w'.ownsRow w.heap.size 3 1 (.slice a (dig 10000 (valB 10000 xs / k)).length c) (dig 10000 (valB 10000 xs / k)).length (i64s (dig 10000 (valB 10000 xs / k))) ∧ Fr No w w' := by
  obtain ⟨i0, hi, hz0, hz1, hz2⟩ := info_parts info_int
  have HX := Lib.hid hx
  clear hx
  go_enter Tryz.func131, Tryz.ntmps131
  go_wp2_with ((at_make; go_loud (refine wpList_make_full _ rfl _ _ 110 rfl w.heap.size 3 i0 (.int .i64 0) 1 Tryz.underlying110 hi hz0 hz1 .i64 .i64 xs.length xs.length xs.length rfl rfl rfl rfl ?c2 ?c3 (Nat.le_refl _) ?_; (case c2 => (rw [hz2]; omega)); (case c3 => (unfold maxLen; omega)); intro w1 hown hgr; rw [made_zeros] at hown)))
  go_loopg [7, 8] xs.length (fun r x7 x8 wr => ∃ m : Nat, r = m ∧ m ≤ xs.length ∧ x8 = .int .i64 ((m : Int) - 1) ∧ x7 = .int .i64 ((divL 10000 k (xs.drop m)).2 : Nat) ∧ wr.ownsRow w.heap.size 3 1 (.slice (some ⟨w.heap.size, 0, none⟩) xs.length xs.length) xs.length (i64s (zs m ++ (divL 10000 k (xs.drop m)).1)) ∧ Fr No w wr)
  case atStart => exact ⟨xs.length, rfl, Nat.le_refl _, rfl, by simp [divL], by simpa [divL] using hown, (Fr.refl No w).grown hgr (fun _ h _ => by cases h)⟩
  case round =>
    obtain ⟨m, hr, hm, rfl, rfl, ho, hf⟩ := hrel
    have HR := Lib.hid hr
    clear hr
    cases m with
    | zero =>
      have hQl := divL_len 10000 k xs
      have hQ := trimT_eq (b := 10000) (by omega) (divL_lt (b := 10000) hk HX.out)
      rw [(divL_quo (b := 10000) hk xs).1] at hQ
      have hR := (divL_quo (b := 10000) hk xs).2
      simp only [zs, List.replicate_zero, List.nil_append, List.drop_zero] at ho ⊢
      generalize (divL 10000 k xs).1 = Q at *
      generalize (divL 10000 k xs).2 = R at *
      have ho2 : wr.ownsRow w.heap.size 3 1 (.slice (some ⟨w.heap.size, 0, none⟩) xs.length xs.length) Q.length (i64s Q) := by rw [hQl]; exact ho
      have hl2 : Q.length ≤ 1000000000 := by omega
      have HQ := Lib.hid hQ
      have HR2 := Lib.hid hR
      clear hQ hQl hR ho
      go_wp2_with fail
      refine (cut_calls w.heap.size _ Q _ hl2 ho2).mono ?_
      rintro e w2 ⟨a, c, rfl, ho3, hb3, hq3⟩
      go_wp2_with fail
      go_ret2
      rw [HQ.out] at ho3 ⊢
      rw [← HR2.out]
      exact ⟨a, c, rfl, ho3, hf.qd hq3⟩
    | succ m =>
      have hxm : xs[m]? = some (xs[m]'(by omega)) := List.getElem?_eq_getElem (by omega)
      have hx1 : xs[m]'(by omega) < 10000 := HX.out _ (List.getElem_mem _)
      have hdr : xs.drop m = xs[m]'(by omega) :: xs.drop (m + 1) := List.drop_eq_getElem_cons (by omega)
      have hrest := divL_rest 10000 hk (xs.drop (m + 1))
      have HO := Lib.hid ho
      have HD := Lib.hid hdr
      rcases own_cases (own_fr h hf (fun _ _ x => x)) with ⟨_, hn, _⟩ | ⟨g, cap, hsl, hB, hg, hcap⟩
      · omega
      · simp only [Value.slice.injEq] at hsl
        obtain ⟨rfl, _, rfl⟩ := hsl
        have hc := own_cell (own_fr h hf (fun _ _ x => x)) (i64s_get hxm)
        have hzl : (zs (m + 1) ++ (divL 10000 k (xs.drop (m + 1))).1)[m]? = some 0 := by
          rw [List.getElem?_append_left (by simp [zs])]; simp [zs]
        have hs := own_cell ho (i64s_get hzl)
        have hfz := ho.frozenAt m
        obtain ⟨R, hR⟩ : ∃ R, (divL 10000 k (xs.drop (m + 1))).2 = R := ⟨_, rfl⟩
        rw [hR] at hrest ⊢
        have HRR := Lib.hid hR
        clear hR ho hdr hxm hzl
        obtain ⟨X, hX⟩ : ∃ X, xs[m]'(by omega) = X := ⟨_, rfl⟩
        have HXX := Lib.hid hX
        rw [hX] at hx1 hc
        clear hX
        go_wp2_with fail
        have hsto := HO.out.stored m (.int .i64 (((R * 10000 + X) / k : Nat) : Int))
        have e1 : ((R : Int) * 10000 + (X : Int)) / (k : Int) = (((R * 10000 + X) / k : Nat) : Int) := by push_cast; rfl
        have e2 : ((R : Int) * 10000 + (X : Int)) % (k : Int) = (((R * 10000 + X) % k : Nat) : Int) := by push_cast; rfl
        go_roundg m
        case measure => have := HR.out; omega
        case rel =>
          have hD : divL 10000 k (xs.drop m) = ((R * 10000 + X) / k :: (divL 10000 k (xs.drop (m + 1))).1, (R * 10000 + X) % k) := by
            rw [HD.out, divL, HRR.out, HXX.out]
          refine ⟨m, rfl, by omega, by go_num, by rw [e2, hD], ?_, hf.setCell _ (fun hh => absurd hh (Nat.lt_irrefl _))⟩
          rw [e1, hD]
          have h5 := hsto.1
          have e5 : (i64s (zs (m + 1) ++ (divL 10000 k (xs.drop (m + 1))).1)).set m (.int .i64 (((R * 10000 + X) / k : Nat) : Int)) = i64s (zs m ++ (R * 10000 + X) / k :: (divL 10000 k (xs.drop (m + 1))).1) := by
            unfold i64s zs
            rw [List.replicate_succ', List.append_assoc, List.map_append, List.set_append_right _ _ (by simp)]
            simp
          rw [e5] at h5
          exact h5
end Go.Proofs.YtlklijpjacmgpaaGreatDoor

namespace Go.Proofs.YtlklijpjacmgpaaGreatDoor
open Go.RowKit
set_option linter.unusedVariables false
set_option linter.unusedSimpArgs false

theorem cutBy_dig (B : Nat) (a0 : Option Addr) (c0 m : Nat) (w : World) (hl : (dig 10000 m).length ≤ 1000000) (h : w.ownsRow B 3 1 (.slice a0 (dig 10000 m).length c0) (dig 10000 m).length (i64s (dig 10000 m))) :
    Calls Tryz.prog 131 #[.slice a0 (dig 10000 m).length c0, .int .i64 4294967296] w fun e w' => ∃ a c, e = .returned (.tuple #[.slice a (dig 10000 (m / L32)).length c, .int .i64 ((m % L32 : Nat) : Int)]) ∧
      w'.ownsRow w.heap.size 3 1 (.slice a (dig 10000 (m / L32)).length c) (dig 10000 (m / L32)).length (i64s (dig 10000 (m / L32))) ∧ Fr No w w' := by
  have := cutBy_calls B a0 c0 (dig 10000 m) 4294967296 w hl (by omega) (by omega) (dig_lt (by omega) m) h
  rw [valB_dig (by omega)] at this
  exact this
set_option maxRecDepth 100000 in
set_option maxHeartbeats 2000000 in
theorem rLimbs_calls (B : Nat) (neg : Bool) (a0 : Option Addr) (c0 n : Nat) (w : World) (hl : (dig 10000 n).length ≤ 1000000) (hn : n ≠ 0) (hBw : B ≤ w.heap.size) (h : w.ownsRow B 3 1 (.slice a0 (dig 10000 n).length c0) (dig 10000 n).length (i64s (dig 10000 n))) :
    Calls Tryz.prog 91 #[nV neg (.slice a0 (dig 10000 n).length c0)] w fun e w' => ∃ a c, e = .returned (.slice a (dig L32 n).length c) ∧
      w'.ownsRow w.heap.size 57 1 (.slice a (dig L32 n).length c) (dig L32 n).length (u32s (dig L32 n)) ∧ Fr No w w' := by
  obtain ⟨i0, hi, hz0, hz1, hz2⟩ := info_parts info_int
  obtain ⟨j0, ji, jz0, jz1, jz2⟩ := info_parts info_u32
  have hpos : 0 < (dig 10000 n).length := by rw [dig_pos (by omega) hn]; simp
  rcases own_cases h with ⟨_, hn0, _⟩ | ⟨g, cap, hsl, hB, hg, hcap⟩
  · omega
  simp only [Value.slice.injEq] at hsl
  obtain ⟨rfl, _, rfl⟩ := hsl
  have hcells : ∀ (o : Obj) (j : Nat) (u : Value), (i64s (dig 10000 n))[j]? = some u → (w.alloc o).cell? ((⟨g, 0, none⟩ : Addr).add j) = some u := fun o j u hj => (h.alloc o).cells (g := g) rfl j u hj
  have HC := Lib.hid hcells
  clear hcells
  have hone : ∀ u ∈ i64s (dig 10000 n), u.oneCell' = true := by intro u hu; simp only [i64s, List.mem_map] at hu; obtain ⟨x, _, rfl⟩ := hu; rfl
  have HO := Lib.hid hone
  clear hone
  go_enter Tryz.func91, Tryz.ntmps91
  go_wp2_with ((at_builtin; refine wpList_append_own _ rfl _ _ 110 rfl w.heap.size 3 i0 (.int .i64 0) 1 8 Tryz.underlying110 hi hz0 hz1 hz2 rfl (by decide) (.slice none 0 0) 0 [] rfl (World.ownsRow_nil _ _ _ _) ⟨g, 0, none⟩ (dig 10000 n).length c0 (i64s (dig 10000 n)) rfl ?c1 ?c2 HO.out ?c3 ?c4 ?c5 ?_; (case c1 => (rw [i64s_len]; omega)); (case c2 => exact HC.out _); (case c3 => (unfold maxLen; omega)); (case c4 => omega); (case c5 => simp); intro v1 w1 hown1 hgr1 _))
  obtain ⟨a1, c1, rfl⟩ := own_form hown1
  simp only [Nat.zero_add, List.nil_append] at hown1
  rw [Nat.zero_add]
  go_loopg [3, 4] n (fun r x3 x4 wr => ∃ m, r = m ∧ m ≤ n ∧ LmRel w wr n m x3 x4)
  case atStart => exact ⟨n, rfl, Nat.le_refl _, [], none, 0, a1, c1, rfl, rfl, by unfold Lm; rfl, World.ownsRow_nil _ _ _ _, hown1, ((Fr.refl No w).alloc _).grown hgr1 (fun _ h _ => by cases h)⟩
  case round =>
    obtain ⟨m, hr, hmn, acc, a3, c3, a4, c4, rfl, rfl, hlm, ho3, ho4, hf⟩ := hrel
    have HR := Lib.hid hr
    have HL := Lib.hid hlm
    have hacc := hlm.len
    clear hr hlm
    by_cases hm : m = 0
    · subst hm
      rw [dig_zero] at *
      go_wp2_with fail
      go_ret
      have hq := HL.out.fin
      rw [hq] at ho3 ⊢
      exact ⟨_, _, rfl, ho3, hf⟩
    · have hp : 0 < (dig 10000 m).length := by rw [dig_pos (by omega) hm]; simp
      have hlen : (dig 10000 m).length ≤ (dig 10000 n).length := (dig_len_le (by omega)).2 (Nat.lt_of_le_of_lt hmn ((dig_len_le (b := 10000) (by omega)).1 (Nat.le_refl _)))
      have hrl : m % L32 < 4294967296 := Nat.mod_lt _ (by unfold L32; omega)
      have HM := Lib.hid hm
      clear hm
      go_wp2_with fail
      refine (cutBy_dig w.heap.size a4 c4 m _ (by omega) ho4).mono ?_
      rintro e w2 ⟨a5, c5, rfl, ho5, hf2⟩
      have ho32 := own_fr ho3 hf2 (fun _ _ x => x)
      have hlt3 := ho3.lt
      have hlt5 := ho5.lt
      have hf3 := hf.callNo hf2
      have hsz := hf3.size
      generalize hR : m % L32 = R at *
      have HRR := Lib.hid hR
      clear hR
      have HT := Lib.hid hlt3
      have HT5 := Lib.hid hlt5
      clear hlt3 hlt5 hf2 ho3 ho4
      go_wp2_with ((at_builtin; refine wpList_append_own _ rfl _ _ 52 rfl w.heap.size 57 j0 (.int .u32 0) 1 4 Tryz.underlying52 ji jz0 jz1 jz2 rfl (by decide) _ _ _ rfl (ho32.alloc _) ⟨w2.heap.size, 0, none⟩ 1 1 [.int .u32 (R : Int)] rfl rfl ?c1 ?c2 ?c3 ?c4 ?c5 ?_; (case c1 => exact new_one _ _ _); (case c2 => exact one_cell rfl); (case c3 => (unfold maxLen; omega)); (case c4 => omega); (case c5 => (simp; omega)); intro v6 w6 hown6 hgr6 _))
      obtain ⟨a6, c6, rfl⟩ := own_form hown6
      go_roundg (m / L32)
      case measure => have := HR.out; have := HM.out; exact (by rw [HR.out]; exact Nat.div_lt_self (by omega) (by unfold L32; omega))
      case rel =>
        refine ⟨m / L32, rfl, Nat.le_trans (Nat.div_le_self _ _) hmn, acc ++ [R], a6, c6, a5, c5, by simp, rfl, ?_, ?_, ?_, ?_⟩
        · rw [← HRR.out]; exact HL.out.next HM.out
        · have h6 := hown6
          simp only [u32s, List.map_append, List.map_cons, List.map_nil, List.length_append, List.length_cons, List.length_nil] at h6 ⊢
          exact h6
        · exact own_mono (apart_kept (own_mono (ho5.alloc _) (Nat.le_refl _)) (fun k hk => (HT.out k hk).2) hgr6) hf.size
        · exact (hf3.alloc _).grown hgr6 (fun k hk hlt => by have := (HT.out k hk).1; omega)
set_option maxRecDepth 100000 in
set_option maxHeartbeats 2000000 in
theorem Long_calls (B : Nat) (neg : Bool) (a0 : Option Addr) (c0 n : Nat) (w : World) (hl : (dig 10000 n).length ≤ 1000000) (h77 : 77 < (dig 10000 n).length) (hn : n ≠ 0) (hBw : B ≤ w.heap.size) (h : w.ownsRow B 3 1 (.slice a0 (dig 10000 n).length c0) (dig 10000 n).length (i64s (dig 10000 n))) :
    Calls Tryz.prog 149 #[nV neg (.slice a0 (dig 10000 n).length c0)] w fun e w' => e = .returned (.int .i64 (dig L32 n).length) ∧ Fr No w w' := by
  go_enter Tryz.func149, Tryz.ntmps149
  go_wp2_with fail
  refine (rLimbs_calls B neg a0 c0 n _ hl hn (by simp; omega) (h.alloc _)).mono ?_
  rintro e w1 ⟨a1, c1, rfl, ho, hf⟩
  go_wp2_with fail
  go_ret
  exact ⟨rfl, ((Fr.refl No w).alloc _).callNo hf⟩
set_option maxRecDepth 100000 in
set_option maxHeartbeats 2000000 in
theorem Big_calls (B : Nat) (neg : Bool) (a0 : Option Addr) (c0 n : Nat) (w : World) (hl : (dig 10000 n).length ≤ 1000000) (hBw : B ≤ w.heap.size) (h : w.ownsRow B 3 1 (.slice a0 (dig 10000 n).length c0) (dig 10000 n).length (i64s (dig 10000 n))) :
    Calls Tryz.prog 118 #[nV neg (.slice a0 (dig 10000 n).length c0)] w fun e w' => e = .returned (.bool (big n)) ∧ Fr No w w' := by
  by_cases h77 : 77 < (dig 10000 n).length
  · have hn : n ≠ 0 := by rintro rfl; rw [dig_zero] at h77; simp at h77
    have HN := Lib.hid hn
    clear hn
    by_cases hb : big n = true
    · have hb2 := (big_iff n).1 hb
      have HB := Lib.hid hb
      clear hb
      go_enter Tryz.func118, Tryz.ntmps118
      go_wp2_with fail
      refine (Long_calls B neg a0 c0 n _ hl h77 HN.out (by simp; omega) (h.alloc _)).mono ?_
      rintro e w1 ⟨rfl, hf⟩
      go_wp2_with fail
      go_ret
      exact ⟨ret_bool (by rw [HB.out]; simp; omega), ((Fr.refl No w).alloc _).callNo hf⟩
    · have hb2 : ¬ 32 < (dig L32 n).length := fun hc => hb ((big_iff n).2 hc)
      have HB := Lib.hid (show big n = false by simpa using hb)
      clear hb
      go_enter Tryz.func118, Tryz.ntmps118
      go_wp2_with fail
      refine (Long_calls B neg a0 c0 n _ hl h77 HN.out (by simp; omega) (h.alloc _)).mono ?_
      rintro e w1 ⟨rfl, hf⟩
      go_wp2_with fail
      go_ret
      exact ⟨ret_bool (by rw [HB.out]; simp; omega), ((Fr.refl No w).alloc _).callNo hf⟩
  · have HB := Lib.hid (show big n = false by
      cases hb : big n with
      | false => rfl
      | true => exact absurd (big_77 hb) h77)
    go_enter Tryz.func118, Tryz.ntmps118
    go_wp2_with fail
    go_ret
    exact ⟨ret_bool (by rw [HB.out]), (Fr.refl No w).alloc _⟩
end Go.Proofs.YtlklijpjacmgpaaGreatDoor

namespace Go.Proofs.YtlklijpjacmgpaaGreatDoor
open Go.RowKit
set_option linter.unusedVariables false
set_option linter.unusedSimpArgs false

/-- the loop's own -/
def DigRel (s : ByteArray) (w wr : World) (k : Nat) (x3 x4 x5 x6 : Value) : Prop :=
  ∃ (dl : List Nat) (v ten : Nat) (a3 : Option Addr) (c3 : Nat), k ≤ s.size ∧ x3 = .slice a3 dl.length c3 ∧ x4 = .int .i64 v ∧ x5 = .int .i64 ten ∧ x6 = .int .i64 ((k : Int) - 1) ∧ DR (codesOf s) k dl v ten ∧
    wr.ownsRow (w.heap.size + 1) 3 1 (.slice a3 dl.length c3) dl.length (i64s dl) ∧ Fr No w wr ∧ Blk wr w.heap.size (.cells #[.bool false, .slice none 0 0] 112 (0, 0))
set_option maxRecDepth 100000 in
set_option maxHeartbeats 2000000 in
theorem Digits_calls (s : ByteArray) (w : World) (hs : s.size ≤ 1000000) (hd : ∀ x ∈ codesOf s, 48 ≤ x ∧ x ≤ 57) :
    Calls Tryz.prog 77 #[.string s] w fun e w' => ∃ a c, e = .returned (nV false (.slice a (dig 10000 (digVal (codesOf s))).length c)) ∧
      w'.ownsRow w.heap.size 3 1 (.slice a (dig 10000 (digVal (codesOf s))).length c) (dig 10000 (digVal (codesOf s))).length (i64s (dig 10000 (digVal (codesOf s)))) ∧ Fr No w w' := by
  obtain ⟨i0, hi, hz0, hz1, hz2⟩ := info_parts info_int
  have hcl := codesOf_len s
  have HCL := Lib.hid hcl
  have HD := Lib.hid hd
  clear hd hcl
  go_enter Tryz.func77, Tryz.ntmps77
  go_wp2_with fail
  go_loopg [3, 4, 5, 6] s.size (fun r x3 x4 x5 x6 wr => ∃ k, r = k ∧ DigRel s w wr k x3 x4 x5 x6)
  case atStart => exact ⟨s.size, rfl, [], 0, 1, none, 0, Nat.le_refl _, rfl, rfl, rfl, rfl, by have := DR.start (codesOf s); rw [HCL.out] at this; exact this, World.ownsRow_nil _ _ _ _, (Fr.refl No w).alloc _, Blk.new _ _⟩
  case round =>
    obtain ⟨k, hr, dl, v, ten, a3, c3, hk, rfl, rfl, rfl, rfl, hD, ho, hf, hblk⟩ := hrel
    have HR := Lib.hid hr
    have hdl : dl.length ≤ s.size := by have := hD.2.2.2.2.2; have := HCL.out; omega
    have h3 := hD.2.2.1
    have hvt := hD.2.2.2.1
    have hv : v < 1000 := by omega
    have HDR := Lib.hid hD
    have HV := Lib.hid hvt
    clear hr hD hvt
    have hlt3 := ho.lt
    have HT := Lib.hid hlt3
    clear hlt3
    cases k with
    | zero =>
      clear h3
      go_wp2_with ((at_builtin; refine wpList_append_own _ rfl _ _ 110 rfl (w.heap.size + 1) 3 i0 (.int .i64 0) 1 8 Tryz.underlying110 hi hz0 hz1 hz2 rfl (by decide) _ _ _ rfl (ho.alloc _) ⟨wr.heap.size, 0, none⟩ 1 1 [.int .i64 (v : Int)] rfl rfl ?c1 ?c2 ?c3 ?c4 ?c5 ?_; (case c1 => exact new_one _ _ _); (case c2 => exact one_cell rfl); (case c3 => (unfold maxLen; omega)); (case c4 => omega); (case c5 => (have := hblk.lt; simp; omega)); intro v6 w6 hown6 hgr6 _))
      obtain ⟨a6, c6, rfl⟩ := own_form hown6
      have hown7 : w6.ownsRow (w.heap.size + 1) 3 1 (.slice a6 (dl.length + 1) c6) (dl ++ [v]).length (i64s (dl ++ [v])) := by
        have := hown6
        simp only [i64s, List.map_append, List.map_cons, List.map_nil, List.length_append, List.length_cons, List.length_nil] at this ⊢
        exact this
      have hblk6 : Blk w6 w.heap.size (.cells #[.bool false, .slice none 0 0] 112 (0, 0)) :=
        (hgr6.block _ (hblk.alloc _).lt (fun e => by have := (HT.out _ e.symm).1; omega)).trans (hblk.alloc _)
      have hf6 : Fr No w w6 := (hf.alloc _).grown hgr6 (fun k hk hlt => by have := (HT.out _ hk).1; omega)
      refine (made_false (w.heap.size + 1) _ (dl ++ [v]) _ (by simp; omega) hown7).mono ?_
      rintro e w7 ⟨a7, c7, rfl, ho7, hb7, hf7⟩
      have hblk7 := hblk6.fr hf7 (fun x => x)
      have g0 := hblk7.cell 0 _ rfl
      have g1 := hblk7.cell 1 _ rfl
      have f0 := hblk7.free 0
      have f1 := hblk7.free 1
      go_wp2_with fail
      have hq := HDR.out.fin
      rw [hq] at ho7 hb7 ⊢
      have hne : (Value.slice a7 (dig 10000 (digVal (codesOf s))).length c7).ownBlock ≠ some w.heap.size := fun hk => by
        have := (ho7.lt _ hk).1; omega
      refine bodyPost_ret (v := nV false (.slice a7 (dig 10000 (digVal (codesOf s))).length c7)) (by simp [results, Tryz.results77, go_sem, g0, g1, f0, f1]) rfl ⟨a7, c7, rfl, ?_, ?_⟩
      · exact own_mono (ownsRow_setCell_other (ownsRow_setCell_other ho7 hne _) hne _) (by omega)
      · exact ((hf6.callNo hf7).setCell _ (fun hh => absurd hh (Nat.lt_irrefl _))).setCell _ (fun hh => absurd hh (Nat.lt_irrefl _))
    | succ k =>
      have hlt : k < s.size := by omega
      have hb := HD.out _ (List.getElem_mem (l := codesOf s) (n := k) (by rw [HCL.out]; exact hlt))
      have hu := (s[k]).toNat_lt
      rw [codesOf_get hlt] at hb
      have HST := Lib.hid (fun hne => HDR.out.step (c := (s[k]).toNat) (by rw [HCL.out]; exact hlt) (codesOf_get hlt _) hb hne)
      rcases h3 with rfl | rfl | rfl | rfl
      · go_wp2_with fail
        go_roundg k
        case measure => have := HR.out; omega
        case rel => exact ⟨k, rfl, dl, v + 1 * ((s[k]).toNat - 48), 10 * 1, a3, c3, by omega, rfl, congrArg (Value.int .i64) (by omega), rfl, by go_num, HST.out (by omega), ho, hf, hblk⟩
      · go_wp2_with fail
        go_roundg k
        case measure => have := HR.out; omega
        case rel => exact ⟨k, rfl, dl, v + 10 * ((s[k]).toNat - 48), 10 * 10, a3, c3, by omega, rfl, congrArg (Value.int .i64) (by omega), rfl, by go_num, HST.out (by omega), ho, hf, hblk⟩
      · go_wp2_with fail
        go_roundg k
        case measure => have := HR.out; omega
        case rel => exact ⟨k, rfl, dl, v + 100 * ((s[k]).toNat - 48), 10 * 100, a3, c3, by omega, rfl, congrArg (Value.int .i64) (by omega), rfl, by go_num, HST.out (by omega), ho, hf, hblk⟩
      · have HP := Lib.hid (HDR.out.push (c := (s[k]).toNat) (by rw [HCL.out]; exact hlt) (codesOf_get hlt _) hb rfl)
        go_wp2_with ((at_builtin; refine wpList_append_own _ rfl _ _ 110 rfl (w.heap.size + 1) 3 i0 (.int .i64 0) 1 8 Tryz.underlying110 hi hz0 hz1 hz2 rfl (by decide) _ _ _ rfl (ho.alloc _) ⟨wr.heap.size, 0, none⟩ 1 1 [.int .i64 ((v : Int) + 1000 * (((s[k]).toNat : Int) - 48))] rfl rfl ?c1 ?c2 ?c3 ?c4 ?c5 ?_; (case c1 => exact new_one _ _ _); (case c2 => exact one_cell rfl); (case c3 => (unfold maxLen; omega)); (case c4 => omega); (case c5 => (have := hblk.lt; simp; omega)); intro v6 w6 hown6 hgr6 _))
        obtain ⟨a6, c6, rfl⟩ := own_form hown6
        have e6 : ((v : Int) + 1000 * (((s[k]).toNat : Int) - 48)) = ((v + 1000 * ((s[k]).toNat - 48) : Nat) : Int) := by omega
        have hown7 : w6.ownsRow (w.heap.size + 1) 3 1 (.slice a6 (dl.length + 1) c6) (dl ++ [v + 1000 * ((s[k]).toNat - 48)]).length (i64s (dl ++ [v + 1000 * ((s[k]).toNat - 48)])) := by
          have := hown6
          rw [e6] at this
          simp only [i64s, List.map_append, List.map_cons, List.map_nil, List.length_append, List.length_cons, List.length_nil] at this ⊢
          exact this
        have hblk6 : Blk w6 w.heap.size (.cells #[.bool false, .slice none 0 0] 112 (0, 0)) :=
          (hgr6.block _ (hblk.alloc _).lt (fun e => by have := (HT.out _ e.symm).1; omega)).trans (hblk.alloc _)
        have hf6 : Fr No w w6 := (hf.alloc _).grown hgr6 (fun k hk hlt => by have := (HT.out _ hk).1; omega)
        go_roundg k
        case measure => have := HR.out; omega
        case rel => exact ⟨k, rfl, dl ++ [v + 1000 * ((s[k]).toNat - 48)], 0, 1, a6, c6, by omega, by simp, rfl, rfl, by go_num, HP.out, by simpa using hown7, hf6, hblk6⟩
end Go.Proofs.YtlklijpjacmgpaaGreatDoor

namespace Go.Proofs.YtlklijpjacmgpaaGreatDoor
open Go.RowKit
set_option linter.unusedVariables false
set_option linter.unusedSimpArgs false

set_option maxHeartbeats 400000 in
theorem part_calls (c : Int) (w : World) :
    Calls Tryz.prog 116 #[.int .i64 c] w fun e w' => e = .returned (.bool (partI c)) ∧ w = w' := by
  go_enter Tryz.func116, Tryz.ntmps116
  go_wp2_with (first | (go_at_call 114; refine (rClass_calls _ _).mono ?_; rintro e w' ⟨rfl, rfl⟩))
  all_goals
    go_ret
    exact ⟨ret_bool (by unfold partI; grind), rfl⟩
set_option maxHeartbeats 1000000 in
theorem bare_calls (s : ByteArray) (w : World) (hs : s.size ≤ 4096) :
    Calls Tryz.prog 117 #[.string s] w fun e w' => e = .returned (.string ⟨(bareL s.data.toList).toArray⟩) ∧ Qd w w' := by
  go_enter Tryz.func117, Tryz.ntmps117
  go_wp2_with fail
  go_loopg [0] s.size (fun k x0 wr => wr = w ∧ ∃ r : ByteArray, r.size = k ∧ r.size ≤ s.size ∧ x0 = .string r ∧ bareL r.data.toList = bareL s.data.toList)
  case atStart => exact ⟨rfl, s, rfl, Nat.le_refl _, rfl, rfl⟩
  case round =>
    obtain ⟨rfl, r, hk, hle, rfl, hb⟩ := hrel
    have HK := Lib.hid hk
    have HB := Lib.hid hb
    clear hk hb
    by_cases h1 : 1 < r.size
    · have hu := (r[0]).toNat_lt
      by_cases h0 : r[0] = 48
      · have hn : (r[0]).toNat = 48 := by rw [h0]; rfl
        have HS := Lib.hid (bare_step h1 h0)
        clear h0
        go_wp2_with fail
        go_roundg (r.size - 1)
        case measure => have := HK.out; omega
        case rel => exact ⟨rfl, _, by simp, by simp; omega, rfl, by rw [← HS.out, HB.out]⟩
      · have hn : (((r[0]).toNat : Int) == 48) = false := by
          simp only [beq_eq_false_iff_ne, ne_eq]
          intro hc
          exact h0 (UInt8.toNat_inj.mp (by simpa using (by omega : (r[0]).toNat = 48)))
        have HS := Lib.hid (bare_stop (r := r) (Or.inr ⟨by omega, h0⟩))
        clear h0
        go_wp2_with fail
        go_ret
        exact ⟨ret_str (by rw [← HB.out, HS.out, Lib.mk_data]), Qd.refl _⟩
    · have HS := Lib.hid (bare_stop (r := r) (Or.inl (by omega)))
      go_wp2_with fail
      go_ret
      exact ⟨ret_str (by rw [← HB.out, HS.out, Lib.mk_data]), Qd.refl _⟩
set_option maxHeartbeats 400000 in
theorem Begin_calls (s : ByteArray) (w : World) :
    Calls Tryz.prog 72 #[.string s] w fun e w' => ∃ b, e = .returned (ptrV b) ∧ Rd w' b s [] ∧ w.heap.size ≤ b ∧ Fr No w w' := by
  go_enter Tryz.func72, Tryz.ntmps72
  go_wp2
  go_ret
  exact ⟨_, rfl, Blk.new _ _, Nat.le_refl _, (Fr.refl No w).alloc _⟩
end Go.Proofs.YtlklijpjacmgpaaGreatDoor

namespace Go.Proofs.YtlklijpjacmgpaaGreatDoor
open Go.RowKit
set_option linter.unusedVariables false
set_option linter.unusedSimpArgs false

/-- what token's frame holds -/
structure TkF (w wr : World) (n0 b : Nat) (S : ByteArray) (pre : List Nat) (p : Pl) (k : Int) (s : ByteArray) : Prop where
  t2 : Blk wr n0 (tokO 0 ⟨#[]⟩ zeroPl)
  t4 : Blk wr (n0 + 1) (plO zeroPl)
  t5 : Blk wr (n0 + 2) (plO p)
  t6 : Blk wr (n0 + 3) (tokO k s p)
  rd : Rd wr b S pre
  fr : Fr (· = b) w wr
  n : n0 = w.heap.size
theorem TkF.init {w : World} {b : Nat} {S : ByteArray} {pre : List Nat} (p : Pl) (hb : Rd w b S pre) :
    TkF w ((((w.alloc (tokO 0 ⟨#[]⟩ zeroPl)).alloc (plO zeroPl)).alloc (plO p)).alloc (tokO 0 ⟨#[]⟩ p)) w.heap.size b S pre p 0 ⟨#[]⟩ := by
  have s1 : (w.alloc (tokO 0 ⟨#[]⟩ zeroPl)).heap.size = w.heap.size + 1 := by simp
  have s2 : ((w.alloc (tokO 0 ⟨#[]⟩ zeroPl)).alloc (plO zeroPl)).heap.size = w.heap.size + 2 := by simp
  have s3 : (((w.alloc (tokO 0 ⟨#[]⟩ zeroPl)).alloc (plO zeroPl)).alloc (plO p)).heap.size = w.heap.size + 3 := by simp
  refine ⟨(((Blk.new _ _).alloc _).alloc _).alloc _, ?_, ?_, ?_, (((hb.alloc _).alloc _).alloc _).alloc _, ((((Fr.refl _ w).alloc _).alloc _).alloc _).alloc _, rfl⟩
  · rw [← s1]; exact ((Blk.new _ _).alloc _).alloc _
  · rw [← s2]; exact (Blk.new _ _).alloc _
  · rw [← s3]; exact Blk.new _ _
theorem TkF.qd {w wr wr' : World} {n0 b : Nat} {S : ByteArray} {pre : List Nat} {p : Pl} {k : Int} {s : ByteArray} (F : TkF w wr n0 b S pre p k s) (q : Qd wr wr') : TkF w wr' n0 b S pre p k s :=
  ⟨q.blk F.t2, q.blk F.t4, q.blk F.t5, q.blk F.t6, F.rd.qd q, F.fr.qd q, F.n⟩
theorem TkF.no {w wr wr' : World} {n0 b : Nat} {S : ByteArray} {pre : List Nat} {p : Pl} {k : Int} {s : ByteArray} (F : TkF w wr n0 b S pre p k s) (f : Fr No wr wr') : TkF w wr' n0 b S pre p k s :=
  ⟨F.t2.fr f (fun x => x), F.t4.fr f (fun x => x), F.t5.fr f (fun x => x), F.t6.fr f (fun x => x), F.rd.fr f (fun x => x), F.fr.callNo f, F.n⟩
theorem TkF.al {w wr : World} {n0 b : Nat} {S : ByteArray} {pre : List Nat} {p : Pl} {k : Int} {s : ByteArray} (F : TkF w wr n0 b S pre p k s) (o : Obj) : TkF w (wr.alloc o) n0 b S pre p k s :=
  ⟨F.t2.alloc o, F.t4.alloc o, F.t5.alloc o, F.t6.alloc o, F.rd.alloc o, F.fr.alloc o, F.n⟩
theorem TkF.next {w wr wr' : World} {n0 b : Nat} {S : ByteArray} {pre pre' : List Nat} {p : Pl} {k : Int} {s : ByteArray} (F : TkF w wr n0 b S pre p k s) (hlt : b < w.heap.size) (r : Rd wr' b S pre') (f : Fr (· = b) wr wr') : TkF w wr' n0 b S pre' p k s := by
  have hn := F.n
  exact ⟨F.t2.fr f (by omega), F.t4.fr f (by omega), F.t5.fr f (by omega), F.t6.fr f (by omega), r, F.fr.call f (fun _ _ x => x), F.n⟩
theorem TkF.setK {w wr : World} {b : Nat} {S : ByteArray} {pre : List Nat} {p : Pl} {k : Int} {s : ByteArray} (F : TkF w wr w.heap.size b S pre p k s) (hlt : b < w.heap.size) (k' : Int) :
    TkF w (wr.setCell ⟨w.heap.size + 1 + 1 + 1, 0, none⟩ (.int .i64 k')) w.heap.size b S pre p k' s :=
  ⟨F.t2.set_ne _ _ (by simp; omega), F.t4.set_ne _ _ (by simp), F.t5.set_ne _ _ (by simp), F.t6.setOff 0 _, F.rd.set_ne _ _ (by simp; omega), F.fr.setCell _ (by simp; omega), rfl⟩
theorem TkF.setS {w wr : World} {b : Nat} {S : ByteArray} {pre : List Nat} {p : Pl} {k : Int} {s : ByteArray} (F : TkF w wr w.heap.size b S pre p k s) (hlt : b < w.heap.size) (s' : ByteArray) :
    TkF w (wr.setCell ⟨w.heap.size + 1 + 1 + 1, 1, none⟩ (.string s')) w.heap.size b S pre p k s' :=
  ⟨F.t2.set_ne _ _ (by simp; omega), F.t4.set_ne _ _ (by simp), F.t5.set_ne _ _ (by simp), F.t6.setOff 1 _, F.rd.set_ne _ _ (by simp; omega), F.fr.setCell _ (by simp; omega), rfl⟩
/-- the world behind an exit -/
theorem TkF.exit {w wr : World} {b : Nat} {S : ByteArray} {pre : List Nat} {p : Pl} {k : Int} {s : ByteArray} (F : TkF w wr w.heap.size b S pre p k s) (hlt : b < w.heap.size) (W : World)
    (hW : W = ((((((((((wr.setCell ⟨w.heap.size, 0, none⟩ (.int .i64 k)).setCell ⟨w.heap.size, 1, none⟩ (.string s)).setCell ⟨w.heap.size, 2, none⟩ (.int .i64 p.b)).setCell ⟨w.heap.size, 3, none⟩ (.int .i64 p.g)).setCell ⟨w.heap.size, 4, none⟩ (.int .i64 p.l)).setCell ⟨w.heap.size, 5, none⟩ (.int .i64 p.c)).setCell
      ⟨w.heap.size + 1, 0, none⟩ (.int .i64 p.b)).setCell ⟨w.heap.size + 1, 1, none⟩ (.int .i64 p.g)).setCell ⟨w.heap.size + 1, 2, none⟩ (.int .i64 p.l)).setCell ⟨w.heap.size + 1, 3, none⟩ (.int .i64 p.c)).drew) :
    Blk W w.heap.size (tokO k s p) ∧ Blk W (w.heap.size + 1) (plO p) ∧ Rd W b S pre ∧ Fr (· = b) w W := by
  subst hW
  refine ⟨?_, ?_, ?_, ?_⟩
  · exact ((((((((((F.t2.setOff 0 _).setOff 1 _).setOff 2 _).setOff 3 _).setOff 4 _).setOff 5 _).set_ne _ _ (by simp)).set_ne _ _ (by simp)).set_ne _ _ (by simp)).set_ne _ _ (by simp)).drew
  · exact ((((((((((F.t4.set_ne _ _ (by simp)).set_ne _ _ (by simp)).set_ne _ _ (by simp)).set_ne _ _ (by simp)).set_ne _ _ (by simp)).set_ne _ _ (by simp)).setOff 0 _).setOff 1 _).setOff 2 _).setOff 3 _).drew
  · exact ((((((((((F.rd.set_ne _ _ (by simp; omega)).set_ne _ _ (by simp; omega)).set_ne _ _ (by simp; omega)).set_ne _ _ (by simp; omega)).set_ne _ _ (by simp; omega)).set_ne _ _ (by simp; omega)).set_ne _ _ (by simp; omega)).set_ne _ _ (by simp; omega)).set_ne _ _ (by simp; omega)).set_ne _ _ (by simp; omega)).drew
  · exact ((((((((((F.fr.setCell _ (by simp)).setCell _ (by simp)).setCell _ (by simp)).setCell _ (by simp)).setCell _ (by simp)).setCell _ (by simp)).setCell _ (by simp; omega)).setCell _ (by simp; omega)).setCell _ (by simp; omega)).setCell _ (by simp; omega)).drew
set_option maxRecDepth 100000 in
set_option maxHeartbeats 2000000 in
theorem rtoken_end {S : ByteArray} {pre0 : List Nat} (T : Txt S.data.toList (pre0 ++ []) []) (hS : S.size ≤ 4096) {w : World} {b : Nat} (hb : Rd w b S pre0) :
    Calls Tryz.prog 74 #[ptrV b] w fun e w' => e = .returned (.tuple #[.agg (tokA 0 ⟨#[]⟩ (along start pre0)), .int .i64 0, .agg (plA (along start pre0))]) ∧ Rd w' b S pre0 ∧ Fr (· = b) w w' := by
  have hbb : Blk w b _ := hb
  have h1 := hbb.cell 1 _ rfl
  have h2 := hbb.cell 2 _ rfl
  have h3 := hbb.cell 3 _ rfl
  have h4 := hbb.cell 4 _ rfl
  have hlt := hbb.lt
  have F0 := TkF.init (along start pre0) hb
  go_enter Tryz.func74, Tryz.ntmps74
  go_wp2_with fail
  refine (Look_is (v := -1) T hS (b := b) F0.rd rfl).mono ?_
  rintro e w1 ⟨rfl, hq1⟩
  have F1 := F0.qd hq1
  clear F0 hq1 h1 h2 h3 h4
  go_wp2_with fail
  have g6_0 : w1.cell? ⟨w.heap.size + 1 + 1 + 1, 0, none⟩ = some (.int .i64 0) := F1.t6.cell 0 _ rfl
  have g6_1 : w1.cell? ⟨w.heap.size + 1 + 1 + 1, 1, none⟩ = some (.string ⟨#[]⟩) := F1.t6.cell 1 _ rfl
  have g6_2 : w1.cell? ⟨w.heap.size + 1 + 1 + 1, 2, none⟩ = some (.int .i64 (along start pre0).b) := F1.t6.cell 2 _ rfl
  have g6_3 : w1.cell? ⟨w.heap.size + 1 + 1 + 1, 3, none⟩ = some (.int .i64 (along start pre0).g) := F1.t6.cell 3 _ rfl
  have g6_4 : w1.cell? ⟨w.heap.size + 1 + 1 + 1, 4, none⟩ = some (.int .i64 (along start pre0).l) := F1.t6.cell 4 _ rfl
  have g6_5 : w1.cell? ⟨w.heap.size + 1 + 1 + 1, 5, none⟩ = some (.int .i64 (along start pre0).c) := F1.t6.cell 5 _ rfl
  have g5_0 : w1.cell? ⟨w.heap.size + 1 + 1, 0, none⟩ = some (.int .i64 (along start pre0).b) := F1.t5.cell 0 _ rfl
  have g5_1 : w1.cell? ⟨w.heap.size + 1 + 1, 1, none⟩ = some (.int .i64 (along start pre0).g) := F1.t5.cell 1 _ rfl
  have g5_2 : w1.cell? ⟨w.heap.size + 1 + 1, 2, none⟩ = some (.int .i64 (along start pre0).l) := F1.t5.cell 2 _ rfl
  have g5_3 : w1.cell? ⟨w.heap.size + 1 + 1, 3, none⟩ = some (.int .i64 (along start pre0).c) := F1.t5.cell 3 _ rfl
  have g2_0 : w1.cell? ⟨w.heap.size, 0, none⟩ = some (.int .i64 0) := F1.t2.cell 0 _ rfl
  have f2_0 := F1.t2.free 0
  have g2_1 : w1.cell? ⟨w.heap.size, 1, none⟩ = some (.string ⟨#[]⟩) := F1.t2.cell 1 _ rfl
  have f2_1 := F1.t2.free 1
  have g2_2 : w1.cell? ⟨w.heap.size, 2, none⟩ = some (.int .i64 0) := F1.t2.cell 2 _ rfl
  have f2_2 := F1.t2.free 2
  have g2_3 : w1.cell? ⟨w.heap.size, 3, none⟩ = some (.int .i64 0) := F1.t2.cell 3 _ rfl
  have f2_3 := F1.t2.free 3
  have g2_4 : w1.cell? ⟨w.heap.size, 4, none⟩ = some (.int .i64 0) := F1.t2.cell 4 _ rfl
  have f2_4 := F1.t2.free 4
  have g2_5 : w1.cell? ⟨w.heap.size, 5, none⟩ = some (.int .i64 0) := F1.t2.cell 5 _ rfl
  have f2_5 := F1.t2.free 5
  have g4_0 : w1.cell? ⟨w.heap.size + 1, 0, none⟩ = some (.int .i64 0) := F1.t4.cell 0 _ rfl
  have f4_0 := F1.t4.free 0
  have g4_1 : w1.cell? ⟨w.heap.size + 1, 1, none⟩ = some (.int .i64 0) := F1.t4.cell 1 _ rfl
  have f4_1 := F1.t4.free 1
  have g4_2 : w1.cell? ⟨w.heap.size + 1, 2, none⟩ = some (.int .i64 0) := F1.t4.cell 2 _ rfl
  have f4_2 := F1.t4.free 2
  have g4_3 : w1.cell? ⟨w.heap.size + 1, 3, none⟩ = some (.int .i64 0) := F1.t4.cell 3 _ rfl
  have f4_3 := F1.t4.free 3
  go_region
  go_wp2
  obtain ⟨e1, e2, e3, e4⟩ := F1.exit hlt _ rfl
  refine bodyPost_ret (results_ctc rfl _ _ _ _ _ _ rfl rfl (load_tok e1 rfl) (load_pl e2 rfl)) rfl ⟨rfl, e3, e4⟩
end Go.Proofs.YtlklijpjacmgpaaGreatDoor

namespace Go.Proofs.YtlklijpjacmgpaaGreatDoor
open Go.RowKit
set_option linter.unusedVariables false
set_option linter.unusedSimpArgs false

/-- how a token comes out -/
def TokOut (w : World) (b : Nat) (S : ByteArray) (pre cs : List Nat) (e : Ending) (w' : World) : Prop :=
  match tk cs with
  | .bad n => ∃ (k : Int) (x : ByteArray), e = .returned (.tuple #[.agg (tokA k x (along start pre)), .int .i64 n, .agg (plA (along start pre))]) ∧ Fr (· = b) w w'
  | .ok k x n => e = .returned (.tuple #[.agg (tokA k ⟨x.toArray⟩ (along start pre)), .int .i64 0, .agg (plA (along start pre))]) ∧ Rd w' b S (pre ++ cs.take n) ∧ Fr (· = b) w w'
set_option maxRecDepth 100000 in
set_option maxHeartbeats 4000000 in
theorem rtoken_name {S : ByteArray} {pre0 r : List Nat} {c : Nat} {t : List UInt8} (T : Txt S.data.toList (pre0 ++ (c :: r)) t) (hS : S.size ≤ 4096) {w : World} {b : Nat} (hb : Rd w b S pre0) (hc : cls c = 2) :
    Calls Tryz.prog 74 #[ptrV b] w (TokOut w b S pre0 (c :: r)) := by
  have hbb : Blk w b _ := hb
  have h1 := hbb.cell 1 _ rfl
  have h2 := hbb.cell 2 _ rfl
  have h3 := hbb.cell 3 _ rfl
  have h4 := hbb.cell 4 _ rfl
  have hlt := hbb.lt
  have F0 := TkF.init (along start pre0) hb
  go_enter Tryz.func74, Tryz.ntmps74
  go_wp2_with fail
  refine (Look_is (v := (c : Int)) T hS (b := b) F0.rd rfl).mono ?_
  rintro e w1 ⟨rfl, hq1⟩
  have F1 := F0.qd hq1
  clear F0 hq1 h1 h2 h3 h4
  go_wp2_with fail
  refine (rClass_calls _ _).mono ?_
  rintro e w' ⟨rfl, rfl⟩
  rw [hc]
  have hcm : ((c : Int) == -1) = false := by simp
  have HC := Lib.hid hc
  clear hc
  go_wp2_with fail
  go_loopg [] (c :: r).length (fun k wr => ∃ mid rest, c :: r = mid ++ rest ∧ rest.length = k ∧ (∀ x ∈ mid, part x = true) ∧ TkF w wr w.heap.size b S (pre0 ++ mid) (along start pre0) 0 ⟨#[]⟩)
  case atStart => exact ⟨[], c :: r, rfl, rfl, by simp, by rw [List.append_nil]; exact F1⟩
  case round =>
    obtain ⟨mid, rest, hsp, hk, hall, F⟩ := hrel
    have T1 : Txt S.data.toList ((pre0 ++ mid) ++ rest) t := by rw [List.append_assoc, ← hsp]; exact T
    have A := Lib.hid (And.intro hsp (And.intro hk hall))
    clear hsp hk hall
    obtain ⟨v, hv⟩ : ∃ v, lk (!t.isEmpty) rest = v := ⟨_, rfl⟩
    cases hp : partI v with
    | true =>
      have HV := Lib.hid hv
      clear hv
      go_wp2_with fail
      refine (Look_is T1 hS F.rd HV.out).mono ?_
      rintro e w2 ⟨rfl, hq2⟩
      have F2 := F.qd hq2
      go_wp2_with fail
      refine (part_calls _ _).mono ?_
      rintro e w' ⟨rfl, rfl⟩
      go_wp2_with fail
      have hpos : 0 ≤ v := by unfold partI at hp; simp at hp; exact hp.1
      cases rest with
      | nil =>
        have := HV.out
        simp only [lk] at this
        split at this <;> omega
      | cons x rest =>
        have hx : (x : Int) = v := HV.out
        refine (Next_at T1 hS F2.rd).mono ?_
        rintro e w3 ⟨rfl, hrd3, hfr3⟩
        go_wp2_with fail
        obtain ⟨a1, a2, a3⟩ := A.out
        go_roundg rest.length
        case measure => simp at a2; omega
        case rel =>
          refine ⟨mid ++ [x], rest, by rw [a1]; simp, rfl, ?_, ?_⟩
          · intro y hy
            simp only [List.mem_append, List.mem_singleton] at hy
            rcases hy with hy | rfl
            · exact a3 y hy
            · rw [← partI_code, hx]; exact hp
          · rw [← List.append_assoc]
            exact F2.next hlt hrd3 hfr3
    | false =>
      have HV := Lib.hid hv
      clear hv
      go_wp2_with fail
      refine (Look_is T1 hS F.rd HV.out).mono ?_
      rintro e w2 ⟨rfl, hq2⟩
      have F2 := F.qd hq2
      clear F hq2
      go_wp2_with fail
      refine (part_calls _ _).mono ?_
      rintro e w' ⟨rfl, rfl⟩
      obtain ⟨a1, a2, a3⟩ := A.out
      have htw := takeWhile_at (p := part) a1 a3 (fun x hx => by
        cases rest with
        | nil => cases hx
        | cons y rest =>
          simp at hx; subst hx
          rw [← partI_code, show ((y : Nat) : Int) = v from HV.out]; exact hp)
      have htx := text_cut T1
      have hqb := along_b (along start pre0) mid
      have hqg := along_g (along start pre0) mid
      rw [← along_append] at hqb hqg
      obtain ⟨l1, l2, l3, l4⟩ := along_fits T1
      rw [← Lib.size_eq] at l1 l2
      have hb1 : (along start pre0).b ≤ (along start (pre0 ++ mid)).b := by omega
      have hg1 : (along start pre0).g ≤ (along start (pre0 ++ mid)).g := by omega
      have hr0 : w2.cell? ⟨b, 0, none⟩ = some (.string S) := Blk.cell F2.rd 0 _ rfl
      have hr1 : w2.cell? ⟨b, 1, none⟩ = some (.int .i64 (along start (pre0 ++ mid)).b) := Blk.cell F2.rd 1 _ rfl
      have hr2 : w2.cell? ⟨b, 2, none⟩ = some (.int .i64 (along start (pre0 ++ mid)).g) := Blk.cell F2.rd 2 _ rfl
      have HTX := Lib.hid htx
      have HTW := Lib.hid htw
      have HQG := Lib.hid hqg
      clear htx htw hqb hqg a1 a2 a3
      have g6_0 : w2.cell? ⟨w.heap.size + 1 + 1 + 1, 0, none⟩ = some (.int .i64 (0)) := F2.t6.cell 0 _ rfl
      have g6_1 : w2.cell? ⟨w.heap.size + 1 + 1 + 1, 1, none⟩ = some (.string ⟨#[]⟩) := F2.t6.cell 1 _ rfl
      have g6_2 : w2.cell? ⟨w.heap.size + 1 + 1 + 1, 2, none⟩ = some (.int .i64 (along start pre0).b) := F2.t6.cell 2 _ rfl
      have g6_3 : w2.cell? ⟨w.heap.size + 1 + 1 + 1, 3, none⟩ = some (.int .i64 (along start pre0).g) := F2.t6.cell 3 _ rfl
      have g6_4 : w2.cell? ⟨w.heap.size + 1 + 1 + 1, 4, none⟩ = some (.int .i64 (along start pre0).l) := F2.t6.cell 4 _ rfl
      have g6_5 : w2.cell? ⟨w.heap.size + 1 + 1 + 1, 5, none⟩ = some (.int .i64 (along start pre0).c) := F2.t6.cell 5 _ rfl
      have f6_0 := F2.t6.free 0
      have f6_1 := F2.t6.free 1
      have g5_0 : w2.cell? ⟨w.heap.size + 1 + 1, 0, none⟩ = some (.int .i64 (along start pre0).b) := F2.t5.cell 0 _ rfl
      have g5_1 : w2.cell? ⟨w.heap.size + 1 + 1, 1, none⟩ = some (.int .i64 (along start pre0).g) := F2.t5.cell 1 _ rfl
      have g5_2 : w2.cell? ⟨w.heap.size + 1 + 1, 2, none⟩ = some (.int .i64 (along start pre0).l) := F2.t5.cell 2 _ rfl
      have g5_3 : w2.cell? ⟨w.heap.size + 1 + 1, 3, none⟩ = some (.int .i64 (along start pre0).c) := F2.t5.cell 3 _ rfl
      have g2_0 : w2.cell? ⟨w.heap.size, 0, none⟩ = some (.int .i64 0) := F2.t2.cell 0 _ rfl
      have f2_0 := F2.t2.free 0
      have g2_1 : w2.cell? ⟨w.heap.size, 1, none⟩ = some (.string ⟨#[]⟩) := F2.t2.cell 1 _ rfl
      have f2_1 := F2.t2.free 1
      have g2_2 : w2.cell? ⟨w.heap.size, 2, none⟩ = some (.int .i64 0) := F2.t2.cell 2 _ rfl
      have f2_2 := F2.t2.free 2
      have g2_3 : w2.cell? ⟨w.heap.size, 3, none⟩ = some (.int .i64 0) := F2.t2.cell 3 _ rfl
      have f2_3 := F2.t2.free 3
      have g2_4 : w2.cell? ⟨w.heap.size, 4, none⟩ = some (.int .i64 0) := F2.t2.cell 4 _ rfl
      have f2_4 := F2.t2.free 4
      have g2_5 : w2.cell? ⟨w.heap.size, 5, none⟩ = some (.int .i64 0) := F2.t2.cell 5 _ rfl
      have f2_5 := F2.t2.free 5
      have g4_0 : w2.cell? ⟨w.heap.size + 1, 0, none⟩ = some (.int .i64 0) := F2.t4.cell 0 _ rfl
      have f4_0 := F2.t4.free 0
      have g4_1 : w2.cell? ⟨w.heap.size + 1, 1, none⟩ = some (.int .i64 0) := F2.t4.cell 1 _ rfl
      have f4_1 := F2.t4.free 1
      have g4_2 : w2.cell? ⟨w.heap.size + 1, 2, none⟩ = some (.int .i64 0) := F2.t4.cell 2 _ rfl
      have f4_2 := F2.t4.free 2
      have g4_3 : w2.cell? ⟨w.heap.size + 1, 3, none⟩ = some (.int .i64 0) := F2.t4.cell 3 _ rfl
      have f4_3 := F2.t4.free 3
      have hbne : b ≠ w.heap.size + 1 + 1 + 1 := by omega
      have hbne2 : w.heap.size + 1 + 1 + 1 ≠ b := by omega
      by_cases h16 : (16 : Int) < ((along start (pre0 ++ mid)).g : Int) - ((along start pre0).g : Int)
      · go_wp2_with fail
        go_region
        go_wp2_with fail
        go_region
        go_wp2_with fail
        go_region
        go_wp2_with fail
        obtain ⟨e1, e2, e3, e4⟩ := ((F2.setK hlt 1).setS hlt _).exit hlt _ rfl
        refine bodyPost_ret (results_ctc rfl _ _ _ _ _ _ rfl rfl (load_tok e1.drew.drew rfl) (load_pl e2.drew.drew rfl)) rfl ?_
        have htk : tk (c :: r) = .bad 42 := by (have h9 := HQG.out; rw [tk2 HC.out, HTW.out, if_pos (by omega)])
        unfold TokOut
        rw [htk]
        exact ⟨_, _, rfl, e4.drew.drew⟩
      · go_wp2_with fail
        go_region
        go_wp2_with fail
        go_region
        go_wp2_with fail
        go_region
        go_wp2_with fail
        obtain ⟨e1, e2, e3, e4⟩ := ((F2.setK hlt 1).setS hlt _).exit hlt _ rfl
        refine bodyPost_ret (results_ctc rfl _ _ _ _ _ _ rfl rfl (load_tok e1.drew.drew rfl) (load_pl e2.drew.drew rfl)) rfl ?_
        have htk : tk (c :: r) = .ok 1 (mid.flatMap enc) mid.length := by (have h9 := HQG.out; rw [tk2 HC.out, HTW.out, if_neg (by omega)])
        unfold TokOut
        rw [htk]
        exact ⟨by rw [← HTX.out]; rfl, by rw [show pre0 ++ (c :: r).take mid.length = pre0 ++ mid from by have h8 := A.out.1; rw [h8]; simp]; exact e3.drew.drew, e4.drew.drew⟩
end Go.Proofs.YtlklijpjacmgpaaGreatDoor

namespace Go.Proofs.YtlklijpjacmgpaaGreatDoor
open Go.RowKit
set_option linter.unusedVariables false
set_option linter.unusedSimpArgs false

theorem Digits_dec (n : Nat) (w : World) (hs : (decText n).length ≤ 4096) :
    Calls Tryz.prog 77 #[.string ⟨(decText n).toArray⟩] w fun e w' => ∃ a c, e = .returned (nV false (.slice a (dig 10000 n).length c)) ∧
      w'.ownsRow w.heap.size 3 1 (.slice a (dig 10000 n).length c) (dig 10000 n).length (i64s (dig 10000 n)) ∧ Fr No w w' := by
  have := Digits_calls ⟨(decText n).toArray⟩ w (by rw [Lib.size_eq]; simp only; omega) codes_dec.2
  rw [codes_dec.1] at this
  exact this
set_option maxRecDepth 100000 in
set_option maxHeartbeats 4000000 in
theorem rtoken_num {S : ByteArray} {pre0 r : List Nat} {c : Nat} {t : List UInt8} (T : Txt S.data.toList (pre0 ++ (c :: r)) t) (hS : S.size ≤ 4096) {w : World} {b : Nat} (hb : Rd w b S pre0) (hc : cls c = 3) :
    Calls Tryz.prog 74 #[ptrV b] w (TokOut w b S pre0 (c :: r)) := by
  have hbb : Blk w b _ := hb
  have h1 := hbb.cell 1 _ rfl
  have h2 := hbb.cell 2 _ rfl
  have h3 := hbb.cell 3 _ rfl
  have h4 := hbb.cell 4 _ rfl
  have hlt := hbb.lt
  have F0 := TkF.init (along start pre0) hb
  go_enter Tryz.func74, Tryz.ntmps74
  go_wp2_with fail
  refine (Look_is (v := (c : Int)) T hS (b := b) F0.rd rfl).mono ?_
  rintro e w1 ⟨rfl, hq1⟩
  have F1 := F0.qd hq1
  clear F0 hq1 h1 h2 h3 h4
  go_wp2_with fail
  refine (rClass_calls _ _).mono ?_
  rintro e w' ⟨rfl, rfl⟩
  rw [hc]
  have hcm : ((c : Int) == -1) = false := by simp
  have HC := Lib.hid hc
  clear hc
  go_wp2_with fail
  go_loopg [] (c :: r).length (fun k wr => ∃ mid rest, c :: r = mid ++ rest ∧ rest.length = k ∧ (∀ x ∈ mid, digit x = true) ∧ TkF w wr w.heap.size b S (pre0 ++ mid) (along start pre0) 0 ⟨#[]⟩)
  case atStart => exact ⟨[], c :: r, rfl, rfl, by simp, by rw [List.append_nil]; exact F1⟩
  case round =>
    obtain ⟨mid, rest, hsp, hk, hall, F⟩ := hrel
    have T1 : Txt S.data.toList ((pre0 ++ mid) ++ rest) t := by rw [List.append_assoc, ← hsp]; exact T
    have A := Lib.hid (And.intro hsp (And.intro hk hall))
    clear hsp hk hall
    obtain ⟨v, hv⟩ : ∃ v, lk (!t.isEmpty) rest = v := ⟨_, rfl⟩
    by_cases hp : 0 ≤ v ∧ cls v = 3
    · have HV := Lib.hid hv
      obtain ⟨hpos, hp3⟩ := hp
      have HP := Lib.hid hp3
      have hp3' : (cls v == 3) = true := by simp [hp3]
      clear hv hp3
      go_wp2_with fail
      refine (Look_is T1 hS F.rd HV.out).mono ?_
      rintro e w2 ⟨rfl, hq2⟩
      have F2 := F.qd hq2
      go_wp2_with fail
      refine (Look_is T1 hS F2.rd HV.out).mono ?_
      rintro e w3 ⟨rfl, hq3⟩
      have F3 := F2.qd hq3
      go_wp2_with fail
      refine (rClass_calls _ _).mono ?_
      rintro e w' ⟨rfl, rfl⟩
      go_wp2_with fail
      cases rest with
      | nil =>
        have := HV.out
        simp only [lk] at this
        split at this <;> omega
      | cons x rest =>
        have hx : (x : Int) = v := HV.out
        refine (Next_at T1 hS F3.rd).mono ?_
        rintro e w4 ⟨rfl, hrd4, hfr4⟩
        go_wp2_with fail
        obtain ⟨a1, a2, a3⟩ := A.out
        go_roundg rest.length
        case measure => simp at a2; omega
        case rel =>
          refine ⟨mid ++ [x], rest, by rw [a1]; simp, rfl, ?_, ?_⟩
          · intro y hy
            simp only [List.mem_append, List.mem_singleton] at hy
            rcases hy with hy | rfl
            · exact a3 y hy
            · unfold digit; rw [hx, HP.out]; rfl
          · rw [← List.append_assoc]
            exact F3.next hlt hrd4 hfr4
    · have HV := Lib.hid hv
      have HP := Lib.hid hp
      clear hv
      obtain ⟨a1, a2, a3⟩ := A.out
      have htw := takeWhile_at (p := digit) a1 a3 (fun x hx => by
        cases rest with
        | nil => cases hx
        | cons y rest =>
          simp at hx; subst hx
          unfold digit
          rw [decide_eq_false_iff_not]
          intro hc3
          have hv2 : (y : Int) = v := HV.out
          exact HP.out ⟨by omega, by rw [← hv2]; exact hc3⟩)
      have htx := text_cut T1
      have hqb := along_b (along start pre0) mid
      rw [← along_append] at hqb
      obtain ⟨l1, l2, l3, l4⟩ := along_fits T1
      rw [← Lib.size_eq] at l1 l2
      have hb1 : (along start pre0).b ≤ (along start (pre0 ++ mid)).b := by omega
      obtain ⟨hdt, hdr⟩ := digits_text a3
      have hne : mid ≠ [] := by
        rintro rfl
        rw [List.takeWhile_cons_of_pos (by unfold digit; rw [HC.out]; rfl)] at htw
        cases htw
      have hbare : (⟨(bareL (S.extract (along start pre0).b (along start (pre0 ++ mid)).b).data.toList).toArray⟩ : ByteArray) = ⟨(decText (digVal mid)).toArray⟩ := by
        rw [htx, hdt]; simp only; rw [bareL_eq mid hne hdr]
      have hsz : (S.extract (along start pre0).b (along start (pre0 ++ mid)).b).size ≤ 4096 := by
        rw [Lib.size_eq, Lib.extract_data, List.length_take, List.length_drop, ← Lib.size_eq]; omega
      have hml : mid.length ≤ 4096 := by
        have h9 := T1.len_le
        rw [← Lib.size_eq] at h9
        simp only [List.length_append] at h9
        omega
      have hv10 : digVal mid < 10 ^ mid.length := by
        have h9 := valB_lt (b := 10) (xs := mid.reverse.map (· - 48)) (by omega) (by
          intro x hx
          simp only [List.mem_map, List.mem_reverse] at hx
          obtain ⟨y, hy, rfl⟩ := hx
          have := hdr y hy
          omega)
        rw [digVal_val]
        simpa using h9
      have hml0 : 0 < mid.length := List.length_pos_iff.2 hne
      have hds : (decText (digVal mid)).length ≤ 4096 := Nat.le_trans (dec_len hv10 hml0) hml
      have hdl : (dig 10000 (digVal mid)).length ≤ 1000000 := by
        have h8 := dig_len_mono (b := 10) (b' := 10000) (n := digVal mid) (by omega) (by omega)
        have h9 := (dig_len_le (b := 10) (n := digVal mid) (k := mid.length) (by omega)).2 hv10
        omega
      clear hv10 hml
      have HTW := Lib.hid htw
      have HTX := Lib.hid htx
      have HBR := Lib.hid hbare
      clear htx htw hqb a1 a2 a3 hbare hdt hdr
      by_cases hpos : 0 ≤ v
      · have hp3 : (cls v == 3) = false := by simp; intro hc3; exact hp ⟨hpos, hc3⟩
        clear hp
        go_wp2_with fail
        refine (Look_is T1 hS F.rd HV.out).mono ?_
        rintro e w2 ⟨rfl, hq2⟩
        have F2 := F.qd hq2
        go_wp2_with fail
        refine (Look_is T1 hS F2.rd HV.out).mono ?_
        rintro e w3 ⟨rfl, hq3⟩
        have F3 := F2.qd hq3
        go_wp2_with fail
        refine (rClass_calls _ _).mono ?_
        rintro e w' ⟨rfl, rfl⟩
        have q6_0 : w3.cell? ⟨w.heap.size + 1 + 1 + 1, 0, none⟩ = some (.int .i64 0) := F3.t6.cell 0 _ rfl
        have qf6_0 := F3.t6.free 0
        go_wp2_with fail
        clear q6_0 qf6_0
        have F9 := F3.setK hlt 2
        generalize (w3.setCell ⟨w.heap.size + 1 + 1 + 1, 0, none⟩ (Value.int IntKind.i64 2)) = w9 at F9 ⊢
        have g6_0 : w9.cell? ⟨w.heap.size + 1 + 1 + 1, 0, none⟩ = some (.int .i64 (2)) := F9.t6.cell 0 _ rfl
        have g6_1 : w9.cell? ⟨w.heap.size + 1 + 1 + 1, 1, none⟩ = some (.string ⟨#[]⟩) := F9.t6.cell 1 _ rfl
        have g6_2 : w9.cell? ⟨w.heap.size + 1 + 1 + 1, 2, none⟩ = some (.int .i64 (along start pre0).b) := F9.t6.cell 2 _ rfl
        have g6_3 : w9.cell? ⟨w.heap.size + 1 + 1 + 1, 3, none⟩ = some (.int .i64 (along start pre0).g) := F9.t6.cell 3 _ rfl
        have g6_4 : w9.cell? ⟨w.heap.size + 1 + 1 + 1, 4, none⟩ = some (.int .i64 (along start pre0).l) := F9.t6.cell 4 _ rfl
        have g6_5 : w9.cell? ⟨w.heap.size + 1 + 1 + 1, 5, none⟩ = some (.int .i64 (along start pre0).c) := F9.t6.cell 5 _ rfl
        have f6_0 := F9.t6.free 0
        have f6_1 := F9.t6.free 1
        have g5_0 : w9.cell? ⟨w.heap.size + 1 + 1, 0, none⟩ = some (.int .i64 (along start pre0).b) := F9.t5.cell 0 _ rfl
        have g5_1 : w9.cell? ⟨w.heap.size + 1 + 1, 1, none⟩ = some (.int .i64 (along start pre0).g) := F9.t5.cell 1 _ rfl
        have g5_2 : w9.cell? ⟨w.heap.size + 1 + 1, 2, none⟩ = some (.int .i64 (along start pre0).l) := F9.t5.cell 2 _ rfl
        have g5_3 : w9.cell? ⟨w.heap.size + 1 + 1, 3, none⟩ = some (.int .i64 (along start pre0).c) := F9.t5.cell 3 _ rfl
        have g2_0 : w9.cell? ⟨w.heap.size, 0, none⟩ = some (.int .i64 0) := F9.t2.cell 0 _ rfl
        have f2_0 := F9.t2.free 0
        have g2_1 : w9.cell? ⟨w.heap.size, 1, none⟩ = some (.string ⟨#[]⟩) := F9.t2.cell 1 _ rfl
        have f2_1 := F9.t2.free 1
        have g2_2 : w9.cell? ⟨w.heap.size, 2, none⟩ = some (.int .i64 0) := F9.t2.cell 2 _ rfl
        have f2_2 := F9.t2.free 2
        have g2_3 : w9.cell? ⟨w.heap.size, 3, none⟩ = some (.int .i64 0) := F9.t2.cell 3 _ rfl
        have f2_3 := F9.t2.free 3
        have g2_4 : w9.cell? ⟨w.heap.size, 4, none⟩ = some (.int .i64 0) := F9.t2.cell 4 _ rfl
        have f2_4 := F9.t2.free 4
        have g2_5 : w9.cell? ⟨w.heap.size, 5, none⟩ = some (.int .i64 0) := F9.t2.cell 5 _ rfl
        have f2_5 := F9.t2.free 5
        have g4_0 : w9.cell? ⟨w.heap.size + 1, 0, none⟩ = some (.int .i64 0) := F9.t4.cell 0 _ rfl
        have f4_0 := F9.t4.free 0
        have g4_1 : w9.cell? ⟨w.heap.size + 1, 1, none⟩ = some (.int .i64 0) := F9.t4.cell 1 _ rfl
        have f4_1 := F9.t4.free 1
        have g4_2 : w9.cell? ⟨w.heap.size + 1, 2, none⟩ = some (.int .i64 0) := F9.t4.cell 2 _ rfl
        have f4_2 := F9.t4.free 2
        have g4_3 : w9.cell? ⟨w.heap.size + 1, 3, none⟩ = some (.int .i64 0) := F9.t4.cell 3 _ rfl
        have f4_3 := F9.t4.free 3
        have hr0 : w9.cell? ⟨b, 0, none⟩ = some (.string S) := Blk.cell F9.rd 0 _ rfl
        have hr1 : w9.cell? ⟨b, 1, none⟩ = some (.int .i64 (along start (pre0 ++ mid)).b) := Blk.cell F9.rd 1 _ rfl
        go_still_tail 12, (by kernel_rfl)
        change wpList _ _ _ _ _ w9.drew
        have F10 := F9.qd ⟨1, rfl⟩
        change TkF w w9.drew w.heap.size b S (pre0 ++ mid) (along start pre0) 2 ⟨#[]⟩ at F10
        generalize w9.drew = w10 at F10 ⊢
        clear F9
        go_wp2_with fail
        refine (bare_calls _ _ hsz).mono ?_
        rintro e w11 ⟨rfl, hq11⟩
        have F11 := F10.qd hq11
        rw [HBR.out]
        have q6_1 : w11.cell? ⟨w.heap.size + 1 + 1 + 1, 1, none⟩ = some (.string ⟨#[]⟩) := F11.t6.cell 1 _ rfl
        have qf6_1 := F11.t6.free 1
        go_wp2_with fail
        have F12 := F11.setS hlt ⟨(decText (digVal mid)).toArray⟩
        refine (Digits_dec _ _ hds).mono ?_
        rintro e w13 ⟨a13, c13, rfl, ho13, hf13⟩
        have F13 := F12.no hf13
        clear q6_1 qf6_1 F10 F11 F12
        go_wp2_with fail
        refine (Big_calls _ _ _ _ _ _ hdl (Nat.le_trans (by simp) hf13.size) ho13).mono ?_
        rintro e w14 ⟨rfl, hf14⟩
        have F14 := F13.no hf14
        clear F13 ho13 hf13 hf14
        have g6_0 : w14.cell? ⟨w.heap.size + 1 + 1 + 1, 0, none⟩ = some (.int .i64 (2)) := F14.t6.cell 0 _ rfl
        have g6_1 : w14.cell? ⟨w.heap.size + 1 + 1 + 1, 1, none⟩ = some (.string ⟨(decText (digVal mid)).toArray⟩) := F14.t6.cell 1 _ rfl
        have g6_2 : w14.cell? ⟨w.heap.size + 1 + 1 + 1, 2, none⟩ = some (.int .i64 (along start pre0).b) := F14.t6.cell 2 _ rfl
        have g6_3 : w14.cell? ⟨w.heap.size + 1 + 1 + 1, 3, none⟩ = some (.int .i64 (along start pre0).g) := F14.t6.cell 3 _ rfl
        have g6_4 : w14.cell? ⟨w.heap.size + 1 + 1 + 1, 4, none⟩ = some (.int .i64 (along start pre0).l) := F14.t6.cell 4 _ rfl
        have g6_5 : w14.cell? ⟨w.heap.size + 1 + 1 + 1, 5, none⟩ = some (.int .i64 (along start pre0).c) := F14.t6.cell 5 _ rfl
        have f6_0 := F14.t6.free 0
        have f6_1 := F14.t6.free 1
        have g5_0 : w14.cell? ⟨w.heap.size + 1 + 1, 0, none⟩ = some (.int .i64 (along start pre0).b) := F14.t5.cell 0 _ rfl
        have g5_1 : w14.cell? ⟨w.heap.size + 1 + 1, 1, none⟩ = some (.int .i64 (along start pre0).g) := F14.t5.cell 1 _ rfl
        have g5_2 : w14.cell? ⟨w.heap.size + 1 + 1, 2, none⟩ = some (.int .i64 (along start pre0).l) := F14.t5.cell 2 _ rfl
        have g5_3 : w14.cell? ⟨w.heap.size + 1 + 1, 3, none⟩ = some (.int .i64 (along start pre0).c) := F14.t5.cell 3 _ rfl
        have g2_0 : w14.cell? ⟨w.heap.size, 0, none⟩ = some (.int .i64 0) := F14.t2.cell 0 _ rfl
        have f2_0 := F14.t2.free 0
        have g2_1 : w14.cell? ⟨w.heap.size, 1, none⟩ = some (.string ⟨#[]⟩) := F14.t2.cell 1 _ rfl
        have f2_1 := F14.t2.free 1
        have g2_2 : w14.cell? ⟨w.heap.size, 2, none⟩ = some (.int .i64 0) := F14.t2.cell 2 _ rfl
        have f2_2 := F14.t2.free 2
        have g2_3 : w14.cell? ⟨w.heap.size, 3, none⟩ = some (.int .i64 0) := F14.t2.cell 3 _ rfl
        have f2_3 := F14.t2.free 3
        have g2_4 : w14.cell? ⟨w.heap.size, 4, none⟩ = some (.int .i64 0) := F14.t2.cell 4 _ rfl
        have f2_4 := F14.t2.free 4
        have g2_5 : w14.cell? ⟨w.heap.size, 5, none⟩ = some (.int .i64 0) := F14.t2.cell 5 _ rfl
        have f2_5 := F14.t2.free 5
        have g4_0 : w14.cell? ⟨w.heap.size + 1, 0, none⟩ = some (.int .i64 0) := F14.t4.cell 0 _ rfl
        have f4_0 := F14.t4.free 0
        have g4_1 : w14.cell? ⟨w.heap.size + 1, 1, none⟩ = some (.int .i64 0) := F14.t4.cell 1 _ rfl
        have f4_1 := F14.t4.free 1
        have g4_2 : w14.cell? ⟨w.heap.size + 1, 2, none⟩ = some (.int .i64 0) := F14.t4.cell 2 _ rfl
        have f4_2 := F14.t4.free 2
        have g4_3 : w14.cell? ⟨w.heap.size + 1, 3, none⟩ = some (.int .i64 0) := F14.t4.cell 3 _ rfl
        have f4_3 := F14.t4.free 3
        by_cases hbig : big (digVal mid) = true
        · have HBG := Lib.hid hbig
          go_wp2_with fail
          go_region
          go_wp2_with fail
          obtain ⟨e1, e2, e3, e4⟩ := F14.exit hlt _ rfl
          refine bodyPost_ret (results_ctc rfl _ _ _ _ _ _ rfl rfl (load_tok e1 rfl) (load_pl e2 rfl)) rfl ?_
          have htk : tk (c :: r) = .bad 2 := by (have h9 := HBG.out; unfold big at h9; rw [tk3 HC.out, HTW.out, if_pos (of_decide_eq_true h9)])
          unfold TokOut
          rw [htk]
          exact ⟨_, _, rfl, e4⟩
        · have hbig : big (digVal mid) = false := by simpa using hbig
          have HBG := Lib.hid hbig
          go_wp2_with fail
          go_region
          go_wp2_with fail
          obtain ⟨e1, e2, e3, e4⟩ := F14.exit hlt _ rfl
          refine bodyPost_ret (results_ctc rfl _ _ _ _ _ _ rfl rfl (load_tok e1 rfl) (load_pl e2 rfl)) rfl ?_
          have htk : tk (c :: r) = .ok 2 (decText (digVal mid)) mid.length := by (have h9 := HBG.out; unfold big at h9; rw [tk3 HC.out, HTW.out, if_neg (of_decide_eq_false h9)])
          unfold TokOut
          rw [htk]
          exact ⟨rfl, by rw [show pre0 ++ (c :: r).take mid.length = pre0 ++ mid from by have h8 := A.out.1; rw [h8]; simp]; exact e3, e4⟩
      · clear hp
        go_wp2_with fail
        refine (Look_is T1 hS F.rd HV.out).mono ?_
        rintro e w2 ⟨rfl, hq2⟩
        have F2 := F.qd hq2
        have q6_0 : w2.cell? ⟨w.heap.size + 1 + 1 + 1, 0, none⟩ = some (.int .i64 0) := F2.t6.cell 0 _ rfl
        have qf6_0 := F2.t6.free 0
        go_wp2_with fail
        clear q6_0 qf6_0
        have F9 := F2.setK hlt 2
        generalize (w2.setCell ⟨w.heap.size + 1 + 1 + 1, 0, none⟩ (Value.int IntKind.i64 2)) = w9 at F9 ⊢
        have g6_0 : w9.cell? ⟨w.heap.size + 1 + 1 + 1, 0, none⟩ = some (.int .i64 (2)) := F9.t6.cell 0 _ rfl
        have g6_1 : w9.cell? ⟨w.heap.size + 1 + 1 + 1, 1, none⟩ = some (.string ⟨#[]⟩) := F9.t6.cell 1 _ rfl
        have g6_2 : w9.cell? ⟨w.heap.size + 1 + 1 + 1, 2, none⟩ = some (.int .i64 (along start pre0).b) := F9.t6.cell 2 _ rfl
        have g6_3 : w9.cell? ⟨w.heap.size + 1 + 1 + 1, 3, none⟩ = some (.int .i64 (along start pre0).g) := F9.t6.cell 3 _ rfl
        have g6_4 : w9.cell? ⟨w.heap.size + 1 + 1 + 1, 4, none⟩ = some (.int .i64 (along start pre0).l) := F9.t6.cell 4 _ rfl
        have g6_5 : w9.cell? ⟨w.heap.size + 1 + 1 + 1, 5, none⟩ = some (.int .i64 (along start pre0).c) := F9.t6.cell 5 _ rfl
        have f6_0 := F9.t6.free 0
        have f6_1 := F9.t6.free 1
        have g5_0 : w9.cell? ⟨w.heap.size + 1 + 1, 0, none⟩ = some (.int .i64 (along start pre0).b) := F9.t5.cell 0 _ rfl
        have g5_1 : w9.cell? ⟨w.heap.size + 1 + 1, 1, none⟩ = some (.int .i64 (along start pre0).g) := F9.t5.cell 1 _ rfl
        have g5_2 : w9.cell? ⟨w.heap.size + 1 + 1, 2, none⟩ = some (.int .i64 (along start pre0).l) := F9.t5.cell 2 _ rfl
        have g5_3 : w9.cell? ⟨w.heap.size + 1 + 1, 3, none⟩ = some (.int .i64 (along start pre0).c) := F9.t5.cell 3 _ rfl
        have g2_0 : w9.cell? ⟨w.heap.size, 0, none⟩ = some (.int .i64 0) := F9.t2.cell 0 _ rfl
        have f2_0 := F9.t2.free 0
        have g2_1 : w9.cell? ⟨w.heap.size, 1, none⟩ = some (.string ⟨#[]⟩) := F9.t2.cell 1 _ rfl
        have f2_1 := F9.t2.free 1
        have g2_2 : w9.cell? ⟨w.heap.size, 2, none⟩ = some (.int .i64 0) := F9.t2.cell 2 _ rfl
        have f2_2 := F9.t2.free 2
        have g2_3 : w9.cell? ⟨w.heap.size, 3, none⟩ = some (.int .i64 0) := F9.t2.cell 3 _ rfl
        have f2_3 := F9.t2.free 3
        have g2_4 : w9.cell? ⟨w.heap.size, 4, none⟩ = some (.int .i64 0) := F9.t2.cell 4 _ rfl
        have f2_4 := F9.t2.free 4
        have g2_5 : w9.cell? ⟨w.heap.size, 5, none⟩ = some (.int .i64 0) := F9.t2.cell 5 _ rfl
        have f2_5 := F9.t2.free 5
        have g4_0 : w9.cell? ⟨w.heap.size + 1, 0, none⟩ = some (.int .i64 0) := F9.t4.cell 0 _ rfl
        have f4_0 := F9.t4.free 0
        have g4_1 : w9.cell? ⟨w.heap.size + 1, 1, none⟩ = some (.int .i64 0) := F9.t4.cell 1 _ rfl
        have f4_1 := F9.t4.free 1
        have g4_2 : w9.cell? ⟨w.heap.size + 1, 2, none⟩ = some (.int .i64 0) := F9.t4.cell 2 _ rfl
        have f4_2 := F9.t4.free 2
        have g4_3 : w9.cell? ⟨w.heap.size + 1, 3, none⟩ = some (.int .i64 0) := F9.t4.cell 3 _ rfl
        have f4_3 := F9.t4.free 3
        have hr0 : w9.cell? ⟨b, 0, none⟩ = some (.string S) := Blk.cell F9.rd 0 _ rfl
        have hr1 : w9.cell? ⟨b, 1, none⟩ = some (.int .i64 (along start (pre0 ++ mid)).b) := Blk.cell F9.rd 1 _ rfl
        go_still_tail 12, (by kernel_rfl)
        change wpList _ _ _ _ _ w9.drew
        have F10 := F9.qd ⟨1, rfl⟩
        change TkF w w9.drew w.heap.size b S (pre0 ++ mid) (along start pre0) 2 ⟨#[]⟩ at F10
        generalize w9.drew = w10 at F10 ⊢
        clear F9
        go_wp2_with fail
        refine (bare_calls _ _ hsz).mono ?_
        rintro e w11 ⟨rfl, hq11⟩
        have F11 := F10.qd hq11
        rw [HBR.out]
        have q6_1 : w11.cell? ⟨w.heap.size + 1 + 1 + 1, 1, none⟩ = some (.string ⟨#[]⟩) := F11.t6.cell 1 _ rfl
        have qf6_1 := F11.t6.free 1
        go_wp2_with fail
        have F12 := F11.setS hlt ⟨(decText (digVal mid)).toArray⟩
        refine (Digits_dec _ _ hds).mono ?_
        rintro e w13 ⟨a13, c13, rfl, ho13, hf13⟩
        have F13 := F12.no hf13
        clear q6_1 qf6_1 F10 F11 F12
        go_wp2_with fail
        refine (Big_calls _ _ _ _ _ _ hdl (Nat.le_trans (by simp) hf13.size) ho13).mono ?_
        rintro e w14 ⟨rfl, hf14⟩
        have F14 := F13.no hf14
        clear F13 ho13 hf13 hf14
        have g6_0 : w14.cell? ⟨w.heap.size + 1 + 1 + 1, 0, none⟩ = some (.int .i64 (2)) := F14.t6.cell 0 _ rfl
        have g6_1 : w14.cell? ⟨w.heap.size + 1 + 1 + 1, 1, none⟩ = some (.string ⟨(decText (digVal mid)).toArray⟩) := F14.t6.cell 1 _ rfl
        have g6_2 : w14.cell? ⟨w.heap.size + 1 + 1 + 1, 2, none⟩ = some (.int .i64 (along start pre0).b) := F14.t6.cell 2 _ rfl
        have g6_3 : w14.cell? ⟨w.heap.size + 1 + 1 + 1, 3, none⟩ = some (.int .i64 (along start pre0).g) := F14.t6.cell 3 _ rfl
        have g6_4 : w14.cell? ⟨w.heap.size + 1 + 1 + 1, 4, none⟩ = some (.int .i64 (along start pre0).l) := F14.t6.cell 4 _ rfl
        have g6_5 : w14.cell? ⟨w.heap.size + 1 + 1 + 1, 5, none⟩ = some (.int .i64 (along start pre0).c) := F14.t6.cell 5 _ rfl
        have f6_0 := F14.t6.free 0
        have f6_1 := F14.t6.free 1
        have g5_0 : w14.cell? ⟨w.heap.size + 1 + 1, 0, none⟩ = some (.int .i64 (along start pre0).b) := F14.t5.cell 0 _ rfl
        have g5_1 : w14.cell? ⟨w.heap.size + 1 + 1, 1, none⟩ = some (.int .i64 (along start pre0).g) := F14.t5.cell 1 _ rfl
        have g5_2 : w14.cell? ⟨w.heap.size + 1 + 1, 2, none⟩ = some (.int .i64 (along start pre0).l) := F14.t5.cell 2 _ rfl
        have g5_3 : w14.cell? ⟨w.heap.size + 1 + 1, 3, none⟩ = some (.int .i64 (along start pre0).c) := F14.t5.cell 3 _ rfl
        have g2_0 : w14.cell? ⟨w.heap.size, 0, none⟩ = some (.int .i64 0) := F14.t2.cell 0 _ rfl
        have f2_0 := F14.t2.free 0
        have g2_1 : w14.cell? ⟨w.heap.size, 1, none⟩ = some (.string ⟨#[]⟩) := F14.t2.cell 1 _ rfl
        have f2_1 := F14.t2.free 1
        have g2_2 : w14.cell? ⟨w.heap.size, 2, none⟩ = some (.int .i64 0) := F14.t2.cell 2 _ rfl
        have f2_2 := F14.t2.free 2
        have g2_3 : w14.cell? ⟨w.heap.size, 3, none⟩ = some (.int .i64 0) := F14.t2.cell 3 _ rfl
        have f2_3 := F14.t2.free 3
        have g2_4 : w14.cell? ⟨w.heap.size, 4, none⟩ = some (.int .i64 0) := F14.t2.cell 4 _ rfl
        have f2_4 := F14.t2.free 4
        have g2_5 : w14.cell? ⟨w.heap.size, 5, none⟩ = some (.int .i64 0) := F14.t2.cell 5 _ rfl
        have f2_5 := F14.t2.free 5
        have g4_0 : w14.cell? ⟨w.heap.size + 1, 0, none⟩ = some (.int .i64 0) := F14.t4.cell 0 _ rfl
        have f4_0 := F14.t4.free 0
        have g4_1 : w14.cell? ⟨w.heap.size + 1, 1, none⟩ = some (.int .i64 0) := F14.t4.cell 1 _ rfl
        have f4_1 := F14.t4.free 1
        have g4_2 : w14.cell? ⟨w.heap.size + 1, 2, none⟩ = some (.int .i64 0) := F14.t4.cell 2 _ rfl
        have f4_2 := F14.t4.free 2
        have g4_3 : w14.cell? ⟨w.heap.size + 1, 3, none⟩ = some (.int .i64 0) := F14.t4.cell 3 _ rfl
        have f4_3 := F14.t4.free 3
        by_cases hbig : big (digVal mid) = true
        · have HBG := Lib.hid hbig
          go_wp2_with fail
          go_region
          go_wp2_with fail
          obtain ⟨e1, e2, e3, e4⟩ := F14.exit hlt _ rfl
          refine bodyPost_ret (results_ctc rfl _ _ _ _ _ _ rfl rfl (load_tok e1 rfl) (load_pl e2 rfl)) rfl ?_
          have htk : tk (c :: r) = .bad 2 := by (have h9 := HBG.out; unfold big at h9; rw [tk3 HC.out, HTW.out, if_pos (of_decide_eq_true h9)])
          unfold TokOut
          rw [htk]
          exact ⟨_, _, rfl, e4⟩
        · have hbig : big (digVal mid) = false := by simpa using hbig
          have HBG := Lib.hid hbig
          go_wp2_with fail
          go_region
          go_wp2_with fail
          obtain ⟨e1, e2, e3, e4⟩ := F14.exit hlt _ rfl
          refine bodyPost_ret (results_ctc rfl _ _ _ _ _ _ rfl rfl (load_tok e1 rfl) (load_pl e2 rfl)) rfl ?_
          have htk : tk (c :: r) = .ok 2 (decText (digVal mid)) mid.length := by (have h9 := HBG.out; unfold big at h9; rw [tk3 HC.out, HTW.out, if_neg (of_decide_eq_false h9)])
          unfold TokOut
          rw [htk]
          exact ⟨rfl, by rw [show pre0 ++ (c :: r).take mid.length = pre0 ++ mid from by have h8 := A.out.1; rw [h8]; simp]; exact e3, e4⟩
end Go.Proofs.YtlklijpjacmgpaaGreatDoor

namespace Go.Proofs.YtlklijpjacmgpaaGreatDoor
open Go.RowKit
set_option linter.unusedVariables false
set_option linter.unusedSimpArgs false

set_option maxRecDepth 100000 in
set_option maxHeartbeats 4000000 in
theorem rtoken_gets {S : ByteArray} {pre0 r : List Nat} {c : Nat} {t : List UInt8} (T : Txt S.data.toList (pre0 ++ (c :: r)) t) (hS : S.size ≤ 4096) {w : World} {b : Nat} (hb : Rd w b S pre0) (hc : cls c = 5) (h1 : c = 8788) :
    Calls Tryz.prog 74 #[ptrV b] w (TokOut w b S pre0 (c :: r)) := by
  have HC := Lib.hid hc
  have hcm : ((c : Int) == -1) = false := by simp
  have k8788 : ((c : Int) == 8788) = true := by simp; omega
  have H1 := Lib.hid h1
  clear hc h1
  have hbb : Blk w b _ := hb
  have h1 := hbb.cell 1 _ rfl
  have h2 := hbb.cell 2 _ rfl
  have h3 := hbb.cell 3 _ rfl
  have h4 := hbb.cell 4 _ rfl
  have hlt := hbb.lt
  have F0 := TkF.init (along start pre0) hb
  go_enter Tryz.func74, Tryz.ntmps74
  go_wp2_with fail
  refine (Look_is (v := (c : Int)) T hS (b := b) F0.rd rfl).mono ?_
  rintro e w1 ⟨rfl, hq1⟩
  have F1 := F0.qd hq1
  clear F0 hq1 h1 h2 h3 h4
  go_wp2_with fail
  refine (rClass_calls _ _).mono ?_
  rintro e w' ⟨rfl, rfl⟩
  rw [HC.out]
  have q6_0 : w1.cell? ⟨w.heap.size + 1 + 1 + 1, 0, none⟩ = some (.int .i64 0) := F1.t6.cell 0 _ rfl
  have qf6_0 := F1.t6.free 0
  go_wp2_with fail
  have F2 := F1.setK hlt 3
  refine (Next_at T hS F2.rd).mono ?_
  rintro e w3 ⟨rfl, hrd3, hfr3⟩
  have F3 := F2.next hlt hrd3 hfr3
  clear q6_0 qf6_0 F1 F2 hfr3 hrd3
  have q6_1 : w3.cell? ⟨w.heap.size + 1 + 1 + 1, 1, none⟩ = some (.string ⟨#[]⟩) := F3.t6.cell 1 _ rfl
  have qf6_1 := F3.t6.free 1
  go_wp2_with fail
  have F4 := F3.setS hlt { data := #[58, 61] }
  generalize (w3.setCell ⟨w.heap.size + 1 + 1 + 1, 1, none⟩ (Value.string { data := #[58, 61] })) = w4 at F4 ⊢
  clear q6_1 qf6_1
  have g6_0 : w4.cell? ⟨w.heap.size + 1 + 1 + 1, 0, none⟩ = some (.int .i64 (3)) := F4.t6.cell 0 _ rfl
  have g6_1 : w4.cell? ⟨w.heap.size + 1 + 1 + 1, 1, none⟩ = some (.string { data := #[58, 61] }) := F4.t6.cell 1 _ rfl
  have g6_2 : w4.cell? ⟨w.heap.size + 1 + 1 + 1, 2, none⟩ = some (.int .i64 (along start pre0).b) := F4.t6.cell 2 _ rfl
  have g6_3 : w4.cell? ⟨w.heap.size + 1 + 1 + 1, 3, none⟩ = some (.int .i64 (along start pre0).g) := F4.t6.cell 3 _ rfl
  have g6_4 : w4.cell? ⟨w.heap.size + 1 + 1 + 1, 4, none⟩ = some (.int .i64 (along start pre0).l) := F4.t6.cell 4 _ rfl
  have g6_5 : w4.cell? ⟨w.heap.size + 1 + 1 + 1, 5, none⟩ = some (.int .i64 (along start pre0).c) := F4.t6.cell 5 _ rfl
  have f6_0 := F4.t6.free 0
  have f6_1 := F4.t6.free 1
  have g5_0 : w4.cell? ⟨w.heap.size + 1 + 1, 0, none⟩ = some (.int .i64 (along start pre0).b) := F4.t5.cell 0 _ rfl
  have g5_1 : w4.cell? ⟨w.heap.size + 1 + 1, 1, none⟩ = some (.int .i64 (along start pre0).g) := F4.t5.cell 1 _ rfl
  have g5_2 : w4.cell? ⟨w.heap.size + 1 + 1, 2, none⟩ = some (.int .i64 (along start pre0).l) := F4.t5.cell 2 _ rfl
  have g5_3 : w4.cell? ⟨w.heap.size + 1 + 1, 3, none⟩ = some (.int .i64 (along start pre0).c) := F4.t5.cell 3 _ rfl
  have g2_0 : w4.cell? ⟨w.heap.size, 0, none⟩ = some (.int .i64 0) := F4.t2.cell 0 _ rfl
  have f2_0 := F4.t2.free 0
  have g2_1 : w4.cell? ⟨w.heap.size, 1, none⟩ = some (.string ⟨#[]⟩) := F4.t2.cell 1 _ rfl
  have f2_1 := F4.t2.free 1
  have g2_2 : w4.cell? ⟨w.heap.size, 2, none⟩ = some (.int .i64 0) := F4.t2.cell 2 _ rfl
  have f2_2 := F4.t2.free 2
  have g2_3 : w4.cell? ⟨w.heap.size, 3, none⟩ = some (.int .i64 0) := F4.t2.cell 3 _ rfl
  have f2_3 := F4.t2.free 3
  have g2_4 : w4.cell? ⟨w.heap.size, 4, none⟩ = some (.int .i64 0) := F4.t2.cell 4 _ rfl
  have f2_4 := F4.t2.free 4
  have g2_5 : w4.cell? ⟨w.heap.size, 5, none⟩ = some (.int .i64 0) := F4.t2.cell 5 _ rfl
  have f2_5 := F4.t2.free 5
  have g4_0 : w4.cell? ⟨w.heap.size + 1, 0, none⟩ = some (.int .i64 0) := F4.t4.cell 0 _ rfl
  have f4_0 := F4.t4.free 0
  have g4_1 : w4.cell? ⟨w.heap.size + 1, 1, none⟩ = some (.int .i64 0) := F4.t4.cell 1 _ rfl
  have f4_1 := F4.t4.free 1
  have g4_2 : w4.cell? ⟨w.heap.size + 1, 2, none⟩ = some (.int .i64 0) := F4.t4.cell 2 _ rfl
  have f4_2 := F4.t4.free 2
  have g4_3 : w4.cell? ⟨w.heap.size + 1, 3, none⟩ = some (.int .i64 0) := F4.t4.cell 3 _ rfl
  have f4_3 := F4.t4.free 3
  go_wp2_with fail
  go_region
  go_wp2_with fail
  obtain ⟨e1, e2, e3, e4⟩ := F4.exit hlt _ rfl
  refine bodyPost_ret (results_ctc rfl _ _ _ _ _ _ rfl rfl (load_tok e1 rfl) (load_pl e2 rfl)) rfl ?_
  have htk : tk (c :: r) = .ok 3 [58, 61] 1 := by (rw [tk5 HC.out, if_pos H1.out])
  unfold TokOut
  rw [htk]
  exact ⟨rfl, by rw [show pre0 ++ (c :: r).take 1 = pre0 ++ [c] from by simp]; exact e3, e4⟩
set_option maxRecDepth 100000 in
set_option maxHeartbeats 4000000 in
theorem rtoken_unlike {S : ByteArray} {pre0 r : List Nat} {c : Nat} {t : List UInt8} (T : Txt S.data.toList (pre0 ++ (c :: r)) t) (hS : S.size ≤ 4096) {w : World} {b : Nat} (hb : Rd w b S pre0) (hc : cls c = 5) (h1 : c = 8800) :
    Calls Tryz.prog 74 #[ptrV b] w (TokOut w b S pre0 (c :: r)) := by
  have HC := Lib.hid hc
  have hcm : ((c : Int) == -1) = false := by simp
  have k8788 : ((c : Int) == 8788) = false := by simp; omega
  have k8800 : ((c : Int) == 8800) = true := by simp; omega
  have H1 := Lib.hid h1
  clear hc h1
  have hbb : Blk w b _ := hb
  have h1 := hbb.cell 1 _ rfl
  have h2 := hbb.cell 2 _ rfl
  have h3 := hbb.cell 3 _ rfl
  have h4 := hbb.cell 4 _ rfl
  have hlt := hbb.lt
  have F0 := TkF.init (along start pre0) hb
  go_enter Tryz.func74, Tryz.ntmps74
  go_wp2_with fail
  refine (Look_is (v := (c : Int)) T hS (b := b) F0.rd rfl).mono ?_
  rintro e w1 ⟨rfl, hq1⟩
  have F1 := F0.qd hq1
  clear F0 hq1 h1 h2 h3 h4
  go_wp2_with fail
  refine (rClass_calls _ _).mono ?_
  rintro e w' ⟨rfl, rfl⟩
  rw [HC.out]
  have q6_0 : w1.cell? ⟨w.heap.size + 1 + 1 + 1, 0, none⟩ = some (.int .i64 0) := F1.t6.cell 0 _ rfl
  have qf6_0 := F1.t6.free 0
  go_wp2_with fail
  have F2 := F1.setK hlt 3
  refine (Next_at T hS F2.rd).mono ?_
  rintro e w3 ⟨rfl, hrd3, hfr3⟩
  have F3 := F2.next hlt hrd3 hfr3
  clear q6_0 qf6_0 F1 F2 hfr3 hrd3
  have q6_1 : w3.cell? ⟨w.heap.size + 1 + 1 + 1, 1, none⟩ = some (.string ⟨#[]⟩) := F3.t6.cell 1 _ rfl
  have qf6_1 := F3.t6.free 1
  go_wp2_with fail
  have F4 := F3.setS hlt { data := #[33, 61] }
  generalize (w3.setCell ⟨w.heap.size + 1 + 1 + 1, 1, none⟩ (Value.string { data := #[33, 61] })) = w4 at F4 ⊢
  clear q6_1 qf6_1
  have g6_0 : w4.cell? ⟨w.heap.size + 1 + 1 + 1, 0, none⟩ = some (.int .i64 (3)) := F4.t6.cell 0 _ rfl
  have g6_1 : w4.cell? ⟨w.heap.size + 1 + 1 + 1, 1, none⟩ = some (.string { data := #[33, 61] }) := F4.t6.cell 1 _ rfl
  have g6_2 : w4.cell? ⟨w.heap.size + 1 + 1 + 1, 2, none⟩ = some (.int .i64 (along start pre0).b) := F4.t6.cell 2 _ rfl
  have g6_3 : w4.cell? ⟨w.heap.size + 1 + 1 + 1, 3, none⟩ = some (.int .i64 (along start pre0).g) := F4.t6.cell 3 _ rfl
  have g6_4 : w4.cell? ⟨w.heap.size + 1 + 1 + 1, 4, none⟩ = some (.int .i64 (along start pre0).l) := F4.t6.cell 4 _ rfl
  have g6_5 : w4.cell? ⟨w.heap.size + 1 + 1 + 1, 5, none⟩ = some (.int .i64 (along start pre0).c) := F4.t6.cell 5 _ rfl
  have f6_0 := F4.t6.free 0
  have f6_1 := F4.t6.free 1
  have g5_0 : w4.cell? ⟨w.heap.size + 1 + 1, 0, none⟩ = some (.int .i64 (along start pre0).b) := F4.t5.cell 0 _ rfl
  have g5_1 : w4.cell? ⟨w.heap.size + 1 + 1, 1, none⟩ = some (.int .i64 (along start pre0).g) := F4.t5.cell 1 _ rfl
  have g5_2 : w4.cell? ⟨w.heap.size + 1 + 1, 2, none⟩ = some (.int .i64 (along start pre0).l) := F4.t5.cell 2 _ rfl
  have g5_3 : w4.cell? ⟨w.heap.size + 1 + 1, 3, none⟩ = some (.int .i64 (along start pre0).c) := F4.t5.cell 3 _ rfl
  have g2_0 : w4.cell? ⟨w.heap.size, 0, none⟩ = some (.int .i64 0) := F4.t2.cell 0 _ rfl
  have f2_0 := F4.t2.free 0
  have g2_1 : w4.cell? ⟨w.heap.size, 1, none⟩ = some (.string ⟨#[]⟩) := F4.t2.cell 1 _ rfl
  have f2_1 := F4.t2.free 1
  have g2_2 : w4.cell? ⟨w.heap.size, 2, none⟩ = some (.int .i64 0) := F4.t2.cell 2 _ rfl
  have f2_2 := F4.t2.free 2
  have g2_3 : w4.cell? ⟨w.heap.size, 3, none⟩ = some (.int .i64 0) := F4.t2.cell 3 _ rfl
  have f2_3 := F4.t2.free 3
  have g2_4 : w4.cell? ⟨w.heap.size, 4, none⟩ = some (.int .i64 0) := F4.t2.cell 4 _ rfl
  have f2_4 := F4.t2.free 4
  have g2_5 : w4.cell? ⟨w.heap.size, 5, none⟩ = some (.int .i64 0) := F4.t2.cell 5 _ rfl
  have f2_5 := F4.t2.free 5
  have g4_0 : w4.cell? ⟨w.heap.size + 1, 0, none⟩ = some (.int .i64 0) := F4.t4.cell 0 _ rfl
  have f4_0 := F4.t4.free 0
  have g4_1 : w4.cell? ⟨w.heap.size + 1, 1, none⟩ = some (.int .i64 0) := F4.t4.cell 1 _ rfl
  have f4_1 := F4.t4.free 1
  have g4_2 : w4.cell? ⟨w.heap.size + 1, 2, none⟩ = some (.int .i64 0) := F4.t4.cell 2 _ rfl
  have f4_2 := F4.t4.free 2
  have g4_3 : w4.cell? ⟨w.heap.size + 1, 3, none⟩ = some (.int .i64 0) := F4.t4.cell 3 _ rfl
  have f4_3 := F4.t4.free 3
  go_wp2_with fail
  go_region
  go_wp2_with fail
  obtain ⟨e1, e2, e3, e4⟩ := F4.exit hlt _ rfl
  refine bodyPost_ret (results_ctc rfl _ _ _ _ _ _ rfl rfl (load_tok e1 rfl) (load_pl e2 rfl)) rfl ?_
  have htk : tk (c :: r) = .ok 3 [33, 61] 1 := by (have h9 := H1.out; rw [tk5 HC.out, if_neg (by omega), if_pos H1.out])
  unfold TokOut
  rw [htk]
  exact ⟨rfl, by rw [show pre0 ++ (c :: r).take 1 = pre0 ++ [c] from by simp]; exact e3, e4⟩
set_option maxRecDepth 100000 in
set_option maxHeartbeats 4000000 in
theorem rtoken_colon {S : ByteArray} {pre0 r : List Nat} {c : Nat} {t : List UInt8} (T : Txt S.data.toList (pre0 ++ (c :: r)) t) (hS : S.size ≤ 4096) {w : World} {b : Nat} (hb : Rd w b S pre0) (hc : cls c = 5) (h1 : c = 58) :
    Calls Tryz.prog 74 #[ptrV b] w (TokOut w b S pre0 (c :: r)) := by
  have HC := Lib.hid hc
  have hcm : ((c : Int) == -1) = false := by simp
  have k8788 : ((c : Int) == 8788) = false := by simp; omega
  have k8800 : ((c : Int) == 8800) = false := by simp; omega
  have k58 : ((c : Int) == 58) = true := by simp; omega
  have k33 : ((c : Int) == 33) = false := by simp; omega
  have H1 := Lib.hid h1
  clear hc h1
  have hbb : Blk w b _ := hb
  have h1 := hbb.cell 1 _ rfl
  have h2 := hbb.cell 2 _ rfl
  have h3 := hbb.cell 3 _ rfl
  have h4 := hbb.cell 4 _ rfl
  have hlt := hbb.lt
  have F0 := TkF.init (along start pre0) hb
  go_enter Tryz.func74, Tryz.ntmps74
  go_wp2_with fail
  refine (Look_is (v := (c : Int)) T hS (b := b) F0.rd rfl).mono ?_
  rintro e w1 ⟨rfl, hq1⟩
  have F1 := F0.qd hq1
  clear F0 hq1 h1 h2 h3 h4
  go_wp2_with fail
  refine (rClass_calls _ _).mono ?_
  rintro e w' ⟨rfl, rfl⟩
  rw [HC.out]
  have q6_0 : w1.cell? ⟨w.heap.size + 1 + 1 + 1, 0, none⟩ = some (.int .i64 0) := F1.t6.cell 0 _ rfl
  have qf6_0 := F1.t6.free 0
  go_wp2_with fail
  have F2 := F1.setK hlt 3
  refine (Next_at T hS F2.rd).mono ?_
  rintro e w3 ⟨rfl, hrd3, hfr3⟩
  have F3 := F2.next hlt hrd3 hfr3
  clear q6_0 qf6_0 F1 F2 hfr3 hrd3
  have T1 : Txt S.data.toList ((pre0 ++ [c]) ++ r) t := by rw [List.append_assoc]; exact T
  obtain ⟨v, hv⟩ : ∃ v, lk (!t.isEmpty) r = v := ⟨_, rfl⟩
  have HV := Lib.hid hv
  clear hv
  by_cases h61 : v = 61
  · have k61 : (v != 61) = false := by simp [h61]
    have H61 := Lib.hid h61
    clear h61
    go_wp2_with fail
    refine (Look_is T1 hS F3.rd HV.out).mono ?_
    rintro e w4 ⟨rfl, hq4⟩
    have F4 := F3.qd hq4
    go_wp2_with fail
    cases r with
    | nil =>
      have := HV.out
      have h9 := H61.out
      simp only [lk] at this
      split at this <;> omega
    | cons x r =>
      have hx : (x : Int) = v := HV.out
      have hx2 : x = 61 := by have := H61.out; omega
      have HX := Lib.hid hx2
      clear hx hx2
      refine (Next_at T1 hS F4.rd).mono ?_
      rintro e w5 ⟨rfl, hrd5, hfr5⟩
      have F5 := F4.next hlt hrd5 hfr5
      clear hrd5 hfr5 F3 F4 hq4
      have q6_1 : w5.cell? ⟨w.heap.size + 1 + 1 + 1, 1, none⟩ = some (.string ⟨#[]⟩) := F5.t6.cell 1 _ rfl
      have qf6_1 := F5.t6.free 1
      go_wp2_with fail
      have F6 := F5.setS hlt { data := #[58, 61] }
      generalize (w5.setCell ⟨w.heap.size + 1 + 1 + 1, 1, none⟩ (Value.string { data := #[58, 61] })) = w6 at F6 ⊢
      clear q6_1 qf6_1
      have g6_0 : w6.cell? ⟨w.heap.size + 1 + 1 + 1, 0, none⟩ = some (.int .i64 (3)) := F6.t6.cell 0 _ rfl
      have g6_1 : w6.cell? ⟨w.heap.size + 1 + 1 + 1, 1, none⟩ = some (.string { data := #[58, 61] }) := F6.t6.cell 1 _ rfl
      have g6_2 : w6.cell? ⟨w.heap.size + 1 + 1 + 1, 2, none⟩ = some (.int .i64 (along start pre0).b) := F6.t6.cell 2 _ rfl
      have g6_3 : w6.cell? ⟨w.heap.size + 1 + 1 + 1, 3, none⟩ = some (.int .i64 (along start pre0).g) := F6.t6.cell 3 _ rfl
      have g6_4 : w6.cell? ⟨w.heap.size + 1 + 1 + 1, 4, none⟩ = some (.int .i64 (along start pre0).l) := F6.t6.cell 4 _ rfl
      have g6_5 : w6.cell? ⟨w.heap.size + 1 + 1 + 1, 5, none⟩ = some (.int .i64 (along start pre0).c) := F6.t6.cell 5 _ rfl
      have f6_0 := F6.t6.free 0
      have f6_1 := F6.t6.free 1
      have g5_0 : w6.cell? ⟨w.heap.size + 1 + 1, 0, none⟩ = some (.int .i64 (along start pre0).b) := F6.t5.cell 0 _ rfl
      have g5_1 : w6.cell? ⟨w.heap.size + 1 + 1, 1, none⟩ = some (.int .i64 (along start pre0).g) := F6.t5.cell 1 _ rfl
      have g5_2 : w6.cell? ⟨w.heap.size + 1 + 1, 2, none⟩ = some (.int .i64 (along start pre0).l) := F6.t5.cell 2 _ rfl
      have g5_3 : w6.cell? ⟨w.heap.size + 1 + 1, 3, none⟩ = some (.int .i64 (along start pre0).c) := F6.t5.cell 3 _ rfl
      have g2_0 : w6.cell? ⟨w.heap.size, 0, none⟩ = some (.int .i64 0) := F6.t2.cell 0 _ rfl
      have f2_0 := F6.t2.free 0
      have g2_1 : w6.cell? ⟨w.heap.size, 1, none⟩ = some (.string ⟨#[]⟩) := F6.t2.cell 1 _ rfl
      have f2_1 := F6.t2.free 1
      have g2_2 : w6.cell? ⟨w.heap.size, 2, none⟩ = some (.int .i64 0) := F6.t2.cell 2 _ rfl
      have f2_2 := F6.t2.free 2
      have g2_3 : w6.cell? ⟨w.heap.size, 3, none⟩ = some (.int .i64 0) := F6.t2.cell 3 _ rfl
      have f2_3 := F6.t2.free 3
      have g2_4 : w6.cell? ⟨w.heap.size, 4, none⟩ = some (.int .i64 0) := F6.t2.cell 4 _ rfl
      have f2_4 := F6.t2.free 4
      have g2_5 : w6.cell? ⟨w.heap.size, 5, none⟩ = some (.int .i64 0) := F6.t2.cell 5 _ rfl
      have f2_5 := F6.t2.free 5
      have g4_0 : w6.cell? ⟨w.heap.size + 1, 0, none⟩ = some (.int .i64 0) := F6.t4.cell 0 _ rfl
      have f4_0 := F6.t4.free 0
      have g4_1 : w6.cell? ⟨w.heap.size + 1, 1, none⟩ = some (.int .i64 0) := F6.t4.cell 1 _ rfl
      have f4_1 := F6.t4.free 1
      have g4_2 : w6.cell? ⟨w.heap.size + 1, 2, none⟩ = some (.int .i64 0) := F6.t4.cell 2 _ rfl
      have f4_2 := F6.t4.free 2
      have g4_3 : w6.cell? ⟨w.heap.size + 1, 3, none⟩ = some (.int .i64 0) := F6.t4.cell 3 _ rfl
      have f4_3 := F6.t4.free 3
      go_wp2_with fail
      go_region
      go_wp2_with fail
      obtain ⟨e1, e2, e3, e4⟩ := F6.exit hlt _ rfl
      refine bodyPost_ret (results_ctc rfl _ _ _ _ _ _ rfl rfl (load_tok e1 rfl) (load_pl e2 rfl)) rfl ?_
      have htk : tk (c :: x :: r) = .ok 3 [UInt8.ofNat c, 61] 2 := by (have h9 := H1.out; rw [tk5 HC.out, if_neg (by omega), if_neg (by omega), if_pos (by omega), if_pos (by rw [HX.out]; rfl)])
      unfold TokOut
      rw [htk]
      exact ⟨by rw [H1.out]; rfl, by rw [show pre0 ++ (c :: x :: r).take 2 = pre0 ++ [c] ++ [x] from by simp]; exact e3, e4⟩
  · have k61 : (v != 61) = true := by simp [h61]
    have H61 := Lib.hid h61
    clear h61
    go_wp2_with fail
    refine (Look_is T1 hS F3.rd HV.out).mono ?_
    rintro e w4 ⟨rfl, hq4⟩
    have F4 := F3.qd hq4
    have g6_0 : w4.cell? ⟨w.heap.size + 1 + 1 + 1, 0, none⟩ = some (.int .i64 (3)) := F4.t6.cell 0 _ rfl
    have g6_1 : w4.cell? ⟨w.heap.size + 1 + 1 + 1, 1, none⟩ = some (.string ⟨#[]⟩) := F4.t6.cell 1 _ rfl
    have g6_2 : w4.cell? ⟨w.heap.size + 1 + 1 + 1, 2, none⟩ = some (.int .i64 (along start pre0).b) := F4.t6.cell 2 _ rfl
    have g6_3 : w4.cell? ⟨w.heap.size + 1 + 1 + 1, 3, none⟩ = some (.int .i64 (along start pre0).g) := F4.t6.cell 3 _ rfl
    have g6_4 : w4.cell? ⟨w.heap.size + 1 + 1 + 1, 4, none⟩ = some (.int .i64 (along start pre0).l) := F4.t6.cell 4 _ rfl
    have g6_5 : w4.cell? ⟨w.heap.size + 1 + 1 + 1, 5, none⟩ = some (.int .i64 (along start pre0).c) := F4.t6.cell 5 _ rfl
    have f6_0 := F4.t6.free 0
    have f6_1 := F4.t6.free 1
    have g5_0 : w4.cell? ⟨w.heap.size + 1 + 1, 0, none⟩ = some (.int .i64 (along start pre0).b) := F4.t5.cell 0 _ rfl
    have g5_1 : w4.cell? ⟨w.heap.size + 1 + 1, 1, none⟩ = some (.int .i64 (along start pre0).g) := F4.t5.cell 1 _ rfl
    have g5_2 : w4.cell? ⟨w.heap.size + 1 + 1, 2, none⟩ = some (.int .i64 (along start pre0).l) := F4.t5.cell 2 _ rfl
    have g5_3 : w4.cell? ⟨w.heap.size + 1 + 1, 3, none⟩ = some (.int .i64 (along start pre0).c) := F4.t5.cell 3 _ rfl
    have g2_0 : w4.cell? ⟨w.heap.size, 0, none⟩ = some (.int .i64 0) := F4.t2.cell 0 _ rfl
    have f2_0 := F4.t2.free 0
    have g2_1 : w4.cell? ⟨w.heap.size, 1, none⟩ = some (.string ⟨#[]⟩) := F4.t2.cell 1 _ rfl
    have f2_1 := F4.t2.free 1
    have g2_2 : w4.cell? ⟨w.heap.size, 2, none⟩ = some (.int .i64 0) := F4.t2.cell 2 _ rfl
    have f2_2 := F4.t2.free 2
    have g2_3 : w4.cell? ⟨w.heap.size, 3, none⟩ = some (.int .i64 0) := F4.t2.cell 3 _ rfl
    have f2_3 := F4.t2.free 3
    have g2_4 : w4.cell? ⟨w.heap.size, 4, none⟩ = some (.int .i64 0) := F4.t2.cell 4 _ rfl
    have f2_4 := F4.t2.free 4
    have g2_5 : w4.cell? ⟨w.heap.size, 5, none⟩ = some (.int .i64 0) := F4.t2.cell 5 _ rfl
    have f2_5 := F4.t2.free 5
    have g4_0 : w4.cell? ⟨w.heap.size + 1, 0, none⟩ = some (.int .i64 0) := F4.t4.cell 0 _ rfl
    have f4_0 := F4.t4.free 0
    have g4_1 : w4.cell? ⟨w.heap.size + 1, 1, none⟩ = some (.int .i64 0) := F4.t4.cell 1 _ rfl
    have f4_1 := F4.t4.free 1
    have g4_2 : w4.cell? ⟨w.heap.size + 1, 2, none⟩ = some (.int .i64 0) := F4.t4.cell 2 _ rfl
    have f4_2 := F4.t4.free 2
    have g4_3 : w4.cell? ⟨w.heap.size + 1, 3, none⟩ = some (.int .i64 0) := F4.t4.cell 3 _ rfl
    have f4_3 := F4.t4.free 3
    go_wp2_with fail
    go_region
    go_wp2_with fail
    obtain ⟨e1, e2, e3, e4⟩ := F4.exit hlt _ rfl
    refine bodyPost_ret (results_ctc rfl _ _ _ _ _ _ rfl rfl (load_tok e1 rfl) (load_pl e2 rfl)) rfl ?_
    have htk : tk (c :: r) = .bad 41 := by (have h9 := H1.out; rw [tk5 HC.out, if_neg (by omega), if_neg (by omega), if_pos (by omega), if_neg (head_ne HV.out H61.out)])
    unfold TokOut
    rw [htk]
    exact ⟨_, _, rfl, e4⟩
set_option maxRecDepth 100000 in
set_option maxHeartbeats 4000000 in
theorem rtoken_bang {S : ByteArray} {pre0 r : List Nat} {c : Nat} {t : List UInt8} (T : Txt S.data.toList (pre0 ++ (c :: r)) t) (hS : S.size ≤ 4096) {w : World} {b : Nat} (hb : Rd w b S pre0) (hc : cls c = 5) (h1 : c = 33) :
    Calls Tryz.prog 74 #[ptrV b] w (TokOut w b S pre0 (c :: r)) := by
  have HC := Lib.hid hc
  have hcm : ((c : Int) == -1) = false := by simp
  have k8788 : ((c : Int) == 8788) = false := by simp; omega
  have k8800 : ((c : Int) == 8800) = false := by simp; omega
  have k58 : ((c : Int) == 58) = false := by simp; omega
  have k33 : ((c : Int) == 33) = true := by simp; omega
  have H1 := Lib.hid h1
  clear hc h1
  have hbb : Blk w b _ := hb
  have h1 := hbb.cell 1 _ rfl
  have h2 := hbb.cell 2 _ rfl
  have h3 := hbb.cell 3 _ rfl
  have h4 := hbb.cell 4 _ rfl
  have hlt := hbb.lt
  have F0 := TkF.init (along start pre0) hb
  go_enter Tryz.func74, Tryz.ntmps74
  go_wp2_with fail
  refine (Look_is (v := (c : Int)) T hS (b := b) F0.rd rfl).mono ?_
  rintro e w1 ⟨rfl, hq1⟩
  have F1 := F0.qd hq1
  clear F0 hq1 h1 h2 h3 h4
  go_wp2_with fail
  refine (rClass_calls _ _).mono ?_
  rintro e w' ⟨rfl, rfl⟩
  rw [HC.out]
  have q6_0 : w1.cell? ⟨w.heap.size + 1 + 1 + 1, 0, none⟩ = some (.int .i64 0) := F1.t6.cell 0 _ rfl
  have qf6_0 := F1.t6.free 0
  go_wp2_with fail
  have F2 := F1.setK hlt 3
  refine (Next_at T hS F2.rd).mono ?_
  rintro e w3 ⟨rfl, hrd3, hfr3⟩
  have F3 := F2.next hlt hrd3 hfr3
  clear q6_0 qf6_0 F1 F2 hfr3 hrd3
  have T1 : Txt S.data.toList ((pre0 ++ [c]) ++ r) t := by rw [List.append_assoc]; exact T
  obtain ⟨v, hv⟩ : ∃ v, lk (!t.isEmpty) r = v := ⟨_, rfl⟩
  have HV := Lib.hid hv
  clear hv
  by_cases h61 : v = 61
  · have k61 : (v != 61) = false := by simp [h61]
    have H61 := Lib.hid h61
    clear h61
    go_wp2_with fail
    refine (Look_is T1 hS F3.rd HV.out).mono ?_
    rintro e w4 ⟨rfl, hq4⟩
    have F4 := F3.qd hq4
    go_wp2_with fail
    cases r with
    | nil =>
      have := HV.out
      have h9 := H61.out
      simp only [lk] at this
      split at this <;> omega
    | cons x r =>
      have hx : (x : Int) = v := HV.out
      have hx2 : x = 61 := by have := H61.out; omega
      have HX := Lib.hid hx2
      clear hx hx2
      refine (Next_at T1 hS F4.rd).mono ?_
      rintro e w5 ⟨rfl, hrd5, hfr5⟩
      have F5 := F4.next hlt hrd5 hfr5
      clear hrd5 hfr5 F3 F4 hq4
      have q6_1 : w5.cell? ⟨w.heap.size + 1 + 1 + 1, 1, none⟩ = some (.string ⟨#[]⟩) := F5.t6.cell 1 _ rfl
      have qf6_1 := F5.t6.free 1
      go_wp2_with fail
      have F55 := F5.setS hlt { data := #[58, 61] }
      have F6 := F55.setS hlt { data := #[33, 61] }
      generalize ((w5.setCell ⟨w.heap.size + 1 + 1 + 1, 1, none⟩ (Value.string { data := #[58, 61] })).setCell ⟨w.heap.size + 1 + 1 + 1, 1, none⟩ (Value.string { data := #[33, 61] })) = w6 at F6 ⊢
      clear q6_1 qf6_1 F55
      have g6_0 : w6.cell? ⟨w.heap.size + 1 + 1 + 1, 0, none⟩ = some (.int .i64 (3)) := F6.t6.cell 0 _ rfl
      have g6_1 : w6.cell? ⟨w.heap.size + 1 + 1 + 1, 1, none⟩ = some (.string { data := #[33, 61] }) := F6.t6.cell 1 _ rfl
      have g6_2 : w6.cell? ⟨w.heap.size + 1 + 1 + 1, 2, none⟩ = some (.int .i64 (along start pre0).b) := F6.t6.cell 2 _ rfl
      have g6_3 : w6.cell? ⟨w.heap.size + 1 + 1 + 1, 3, none⟩ = some (.int .i64 (along start pre0).g) := F6.t6.cell 3 _ rfl
      have g6_4 : w6.cell? ⟨w.heap.size + 1 + 1 + 1, 4, none⟩ = some (.int .i64 (along start pre0).l) := F6.t6.cell 4 _ rfl
      have g6_5 : w6.cell? ⟨w.heap.size + 1 + 1 + 1, 5, none⟩ = some (.int .i64 (along start pre0).c) := F6.t6.cell 5 _ rfl
      have f6_0 := F6.t6.free 0
      have f6_1 := F6.t6.free 1
      have g5_0 : w6.cell? ⟨w.heap.size + 1 + 1, 0, none⟩ = some (.int .i64 (along start pre0).b) := F6.t5.cell 0 _ rfl
      have g5_1 : w6.cell? ⟨w.heap.size + 1 + 1, 1, none⟩ = some (.int .i64 (along start pre0).g) := F6.t5.cell 1 _ rfl
      have g5_2 : w6.cell? ⟨w.heap.size + 1 + 1, 2, none⟩ = some (.int .i64 (along start pre0).l) := F6.t5.cell 2 _ rfl
      have g5_3 : w6.cell? ⟨w.heap.size + 1 + 1, 3, none⟩ = some (.int .i64 (along start pre0).c) := F6.t5.cell 3 _ rfl
      have g2_0 : w6.cell? ⟨w.heap.size, 0, none⟩ = some (.int .i64 0) := F6.t2.cell 0 _ rfl
      have f2_0 := F6.t2.free 0
      have g2_1 : w6.cell? ⟨w.heap.size, 1, none⟩ = some (.string ⟨#[]⟩) := F6.t2.cell 1 _ rfl
      have f2_1 := F6.t2.free 1
      have g2_2 : w6.cell? ⟨w.heap.size, 2, none⟩ = some (.int .i64 0) := F6.t2.cell 2 _ rfl
      have f2_2 := F6.t2.free 2
      have g2_3 : w6.cell? ⟨w.heap.size, 3, none⟩ = some (.int .i64 0) := F6.t2.cell 3 _ rfl
      have f2_3 := F6.t2.free 3
      have g2_4 : w6.cell? ⟨w.heap.size, 4, none⟩ = some (.int .i64 0) := F6.t2.cell 4 _ rfl
      have f2_4 := F6.t2.free 4
      have g2_5 : w6.cell? ⟨w.heap.size, 5, none⟩ = some (.int .i64 0) := F6.t2.cell 5 _ rfl
      have f2_5 := F6.t2.free 5
      have g4_0 : w6.cell? ⟨w.heap.size + 1, 0, none⟩ = some (.int .i64 0) := F6.t4.cell 0 _ rfl
      have f4_0 := F6.t4.free 0
      have g4_1 : w6.cell? ⟨w.heap.size + 1, 1, none⟩ = some (.int .i64 0) := F6.t4.cell 1 _ rfl
      have f4_1 := F6.t4.free 1
      have g4_2 : w6.cell? ⟨w.heap.size + 1, 2, none⟩ = some (.int .i64 0) := F6.t4.cell 2 _ rfl
      have f4_2 := F6.t4.free 2
      have g4_3 : w6.cell? ⟨w.heap.size + 1, 3, none⟩ = some (.int .i64 0) := F6.t4.cell 3 _ rfl
      have f4_3 := F6.t4.free 3
      go_wp2_with fail
      go_region
      go_wp2_with fail
      obtain ⟨e1, e2, e3, e4⟩ := F6.exit hlt _ rfl
      refine bodyPost_ret (results_ctc rfl _ _ _ _ _ _ rfl rfl (load_tok e1 rfl) (load_pl e2 rfl)) rfl ?_
      have htk : tk (c :: x :: r) = .ok 3 [UInt8.ofNat c, 61] 2 := by (have h9 := H1.out; rw [tk5 HC.out, if_neg (by omega), if_neg (by omega), if_pos (by omega), if_pos (by rw [HX.out]; rfl)])
      unfold TokOut
      rw [htk]
      exact ⟨by rw [H1.out]; rfl, by rw [show pre0 ++ (c :: x :: r).take 2 = pre0 ++ [c] ++ [x] from by simp]; exact e3, e4⟩
  · have k61 : (v != 61) = true := by simp [h61]
    have H61 := Lib.hid h61
    clear h61
    go_wp2_with fail
    refine (Look_is T1 hS F3.rd HV.out).mono ?_
    rintro e w4 ⟨rfl, hq4⟩
    have F4 := F3.qd hq4
    have g6_0 : w4.cell? ⟨w.heap.size + 1 + 1 + 1, 0, none⟩ = some (.int .i64 (3)) := F4.t6.cell 0 _ rfl
    have g6_1 : w4.cell? ⟨w.heap.size + 1 + 1 + 1, 1, none⟩ = some (.string ⟨#[]⟩) := F4.t6.cell 1 _ rfl
    have g6_2 : w4.cell? ⟨w.heap.size + 1 + 1 + 1, 2, none⟩ = some (.int .i64 (along start pre0).b) := F4.t6.cell 2 _ rfl
    have g6_3 : w4.cell? ⟨w.heap.size + 1 + 1 + 1, 3, none⟩ = some (.int .i64 (along start pre0).g) := F4.t6.cell 3 _ rfl
    have g6_4 : w4.cell? ⟨w.heap.size + 1 + 1 + 1, 4, none⟩ = some (.int .i64 (along start pre0).l) := F4.t6.cell 4 _ rfl
    have g6_5 : w4.cell? ⟨w.heap.size + 1 + 1 + 1, 5, none⟩ = some (.int .i64 (along start pre0).c) := F4.t6.cell 5 _ rfl
    have f6_0 := F4.t6.free 0
    have f6_1 := F4.t6.free 1
    have g5_0 : w4.cell? ⟨w.heap.size + 1 + 1, 0, none⟩ = some (.int .i64 (along start pre0).b) := F4.t5.cell 0 _ rfl
    have g5_1 : w4.cell? ⟨w.heap.size + 1 + 1, 1, none⟩ = some (.int .i64 (along start pre0).g) := F4.t5.cell 1 _ rfl
    have g5_2 : w4.cell? ⟨w.heap.size + 1 + 1, 2, none⟩ = some (.int .i64 (along start pre0).l) := F4.t5.cell 2 _ rfl
    have g5_3 : w4.cell? ⟨w.heap.size + 1 + 1, 3, none⟩ = some (.int .i64 (along start pre0).c) := F4.t5.cell 3 _ rfl
    have g2_0 : w4.cell? ⟨w.heap.size, 0, none⟩ = some (.int .i64 0) := F4.t2.cell 0 _ rfl
    have f2_0 := F4.t2.free 0
    have g2_1 : w4.cell? ⟨w.heap.size, 1, none⟩ = some (.string ⟨#[]⟩) := F4.t2.cell 1 _ rfl
    have f2_1 := F4.t2.free 1
    have g2_2 : w4.cell? ⟨w.heap.size, 2, none⟩ = some (.int .i64 0) := F4.t2.cell 2 _ rfl
    have f2_2 := F4.t2.free 2
    have g2_3 : w4.cell? ⟨w.heap.size, 3, none⟩ = some (.int .i64 0) := F4.t2.cell 3 _ rfl
    have f2_3 := F4.t2.free 3
    have g2_4 : w4.cell? ⟨w.heap.size, 4, none⟩ = some (.int .i64 0) := F4.t2.cell 4 _ rfl
    have f2_4 := F4.t2.free 4
    have g2_5 : w4.cell? ⟨w.heap.size, 5, none⟩ = some (.int .i64 0) := F4.t2.cell 5 _ rfl
    have f2_5 := F4.t2.free 5
    have g4_0 : w4.cell? ⟨w.heap.size + 1, 0, none⟩ = some (.int .i64 0) := F4.t4.cell 0 _ rfl
    have f4_0 := F4.t4.free 0
    have g4_1 : w4.cell? ⟨w.heap.size + 1, 1, none⟩ = some (.int .i64 0) := F4.t4.cell 1 _ rfl
    have f4_1 := F4.t4.free 1
    have g4_2 : w4.cell? ⟨w.heap.size + 1, 2, none⟩ = some (.int .i64 0) := F4.t4.cell 2 _ rfl
    have f4_2 := F4.t4.free 2
    have g4_3 : w4.cell? ⟨w.heap.size + 1, 3, none⟩ = some (.int .i64 0) := F4.t4.cell 3 _ rfl
    have f4_3 := F4.t4.free 3
    go_wp2_with fail
    go_region
    go_wp2_with fail
    obtain ⟨e1, e2, e3, e4⟩ := F4.exit hlt _ rfl
    refine bodyPost_ret (results_ctc rfl _ _ _ _ _ _ rfl rfl (load_tok e1 rfl) (load_pl e2 rfl)) rfl ?_
    have htk : tk (c :: r) = .bad 41 := by (have h9 := H1.out; rw [tk5 HC.out, if_neg (by omega), if_neg (by omega), if_pos (by omega), if_neg (head_ne HV.out H61.out)])
    unfold TokOut
    rw [htk]
    exact ⟨_, _, rfl, e4⟩
set_option maxRecDepth 100000 in
set_option maxHeartbeats 4000000 in
theorem rtoken_sign {S : ByteArray} {pre0 r : List Nat} {c : Nat} {t : List UInt8} (T : Txt S.data.toList (pre0 ++ (c :: r)) t) (hS : S.size ≤ 4096) {w : World} {b : Nat} (hb : Rd w b S pre0) (hc : cls c = 5) (h1 : c ≠ 8788 ∧ c ≠ 8800 ∧ c ≠ 58 ∧ c ≠ 33) :
    Calls Tryz.prog 74 #[ptrV b] w (TokOut w b S pre0 (c :: r)) := by
  have HC := Lib.hid hc
  have hcm : ((c : Int) == -1) = false := by simp
  have k8788 : ((c : Int) == 8788) = false := by simp; omega
  have k8800 : ((c : Int) == 8800) = false := by simp; omega
  have k58 : ((c : Int) == 58) = false := by simp; omega
  have k33 : ((c : Int) == 33) = false := by simp; omega
  have hf := fold_byte hc h1
  have H1 := Lib.hid h1
  clear hc h1
  have hbb : Blk w b _ := hb
  have h1 := hbb.cell 1 _ rfl
  have h2 := hbb.cell 2 _ rfl
  have h3 := hbb.cell 3 _ rfl
  have h4 := hbb.cell 4 _ rfl
  have hlt := hbb.lt
  have F0 := TkF.init (along start pre0) hb
  go_enter Tryz.func74, Tryz.ntmps74
  go_wp2_with fail
  refine (Look_is (v := (c : Int)) T hS (b := b) F0.rd rfl).mono ?_
  rintro e w1 ⟨rfl, hq1⟩
  have F1 := F0.qd hq1
  clear F0 hq1 h1 h2 h3 h4
  go_wp2_with fail
  refine (rClass_calls _ _).mono ?_
  rintro e w' ⟨rfl, rfl⟩
  rw [HC.out]
  have q6_0 : w1.cell? ⟨w.heap.size + 1 + 1 + 1, 0, none⟩ = some (.int .i64 0) := F1.t6.cell 0 _ rfl
  have qf6_0 := F1.t6.free 0
  go_wp2_with fail
  have F2 := F1.setK hlt 3
  refine (Next_at T hS F2.rd).mono ?_
  rintro e w3 ⟨rfl, hrd3, hfr3⟩
  have F3 := F2.next hlt hrd3 hfr3
  clear q6_0 qf6_0 F1 F2 hfr3 hrd3
  have q6_1 : w3.cell? ⟨w.heap.size + 1 + 1 + 1, 1, none⟩ = some (.string ⟨#[]⟩) := F3.t6.cell 1 _ rfl
  have qf6_1 := F3.t6.free 1
  go_wp2_with fail
  refine (rFold_calls _ _).mono ?_
  rintro e w' ⟨rfl, rfl⟩
  obtain ⟨fb, hfb⟩ : ∃ fb, fold (c : Int) = fb := ⟨_, rfl⟩
  rw [hfb] at hf ⊢
  have HFB := Lib.hid hfb
  clear hfb
  have hcv : ((convert 99 9 (.slice (some ⟨w3.heap.size, 0, none⟩) 1 1)).run Tryz.prog (w3.alloc (.cells #[.int .u8 fb] 5))) = .ok (.string ⟨#[UInt8.ofNat fb.toNat]⟩) (w3.alloc (.cells #[.int .u8 fb] 5)) := by
    rw [run_convert_bytes_arg (w3.alloc (.cells #[.int .u8 fb] 5)) 99 5 Tryz.underlying99 Tryz.underlying5 w3.heap.size 0 1 1 [fb] rfl ?_ _ Tryz.underlying9]
    · rfl
    · intro j hj
      obtain rfl : j = 0 := by omega
      exact (Blk.new w3 (.cells #[.int .u8 fb] 5)).cell 0 _ rfl
  clear q6_1 qf6_1
  have F4 := F3.al (.cells #[.int .u8 fb] 5)
  have q6_1 : (w3.alloc (Obj.cells #[Value.int IntKind.u8 fb] 5)).cell? ⟨w.heap.size + 1 + 1 + 1, 1, none⟩ = some (.string ⟨#[]⟩) := F4.t6.cell 1 _ rfl
  have qf6_1 := F4.t6.free 1
  go_wp2_with fail
  have F5 := F4.setS hlt { data := #[UInt8.ofNat fb.toNat] }
  generalize ((w3.alloc (Obj.cells #[Value.int IntKind.u8 fb] 5)).setCell ⟨w.heap.size + 1 + 1 + 1, 1, none⟩ (Value.string { data := #[UInt8.ofNat fb.toNat] })) = w5 at F5 ⊢
  clear q6_1 qf6_1
  have g6_0 : w5.cell? ⟨w.heap.size + 1 + 1 + 1, 0, none⟩ = some (.int .i64 (3)) := F5.t6.cell 0 _ rfl
  have g6_1 : w5.cell? ⟨w.heap.size + 1 + 1 + 1, 1, none⟩ = some (.string { data := #[UInt8.ofNat fb.toNat] }) := F5.t6.cell 1 _ rfl
  have g6_2 : w5.cell? ⟨w.heap.size + 1 + 1 + 1, 2, none⟩ = some (.int .i64 (along start pre0).b) := F5.t6.cell 2 _ rfl
  have g6_3 : w5.cell? ⟨w.heap.size + 1 + 1 + 1, 3, none⟩ = some (.int .i64 (along start pre0).g) := F5.t6.cell 3 _ rfl
  have g6_4 : w5.cell? ⟨w.heap.size + 1 + 1 + 1, 4, none⟩ = some (.int .i64 (along start pre0).l) := F5.t6.cell 4 _ rfl
  have g6_5 : w5.cell? ⟨w.heap.size + 1 + 1 + 1, 5, none⟩ = some (.int .i64 (along start pre0).c) := F5.t6.cell 5 _ rfl
  have f6_0 := F5.t6.free 0
  have f6_1 := F5.t6.free 1
  have g5_0 : w5.cell? ⟨w.heap.size + 1 + 1, 0, none⟩ = some (.int .i64 (along start pre0).b) := F5.t5.cell 0 _ rfl
  have g5_1 : w5.cell? ⟨w.heap.size + 1 + 1, 1, none⟩ = some (.int .i64 (along start pre0).g) := F5.t5.cell 1 _ rfl
  have g5_2 : w5.cell? ⟨w.heap.size + 1 + 1, 2, none⟩ = some (.int .i64 (along start pre0).l) := F5.t5.cell 2 _ rfl
  have g5_3 : w5.cell? ⟨w.heap.size + 1 + 1, 3, none⟩ = some (.int .i64 (along start pre0).c) := F5.t5.cell 3 _ rfl
  have g2_0 : w5.cell? ⟨w.heap.size, 0, none⟩ = some (.int .i64 0) := F5.t2.cell 0 _ rfl
  have f2_0 := F5.t2.free 0
  have g2_1 : w5.cell? ⟨w.heap.size, 1, none⟩ = some (.string ⟨#[]⟩) := F5.t2.cell 1 _ rfl
  have f2_1 := F5.t2.free 1
  have g2_2 : w5.cell? ⟨w.heap.size, 2, none⟩ = some (.int .i64 0) := F5.t2.cell 2 _ rfl
  have f2_2 := F5.t2.free 2
  have g2_3 : w5.cell? ⟨w.heap.size, 3, none⟩ = some (.int .i64 0) := F5.t2.cell 3 _ rfl
  have f2_3 := F5.t2.free 3
  have g2_4 : w5.cell? ⟨w.heap.size, 4, none⟩ = some (.int .i64 0) := F5.t2.cell 4 _ rfl
  have f2_4 := F5.t2.free 4
  have g2_5 : w5.cell? ⟨w.heap.size, 5, none⟩ = some (.int .i64 0) := F5.t2.cell 5 _ rfl
  have f2_5 := F5.t2.free 5
  have g4_0 : w5.cell? ⟨w.heap.size + 1, 0, none⟩ = some (.int .i64 0) := F5.t4.cell 0 _ rfl
  have f4_0 := F5.t4.free 0
  have g4_1 : w5.cell? ⟨w.heap.size + 1, 1, none⟩ = some (.int .i64 0) := F5.t4.cell 1 _ rfl
  have f4_1 := F5.t4.free 1
  have g4_2 : w5.cell? ⟨w.heap.size + 1, 2, none⟩ = some (.int .i64 0) := F5.t4.cell 2 _ rfl
  have f4_2 := F5.t4.free 2
  have g4_3 : w5.cell? ⟨w.heap.size + 1, 3, none⟩ = some (.int .i64 0) := F5.t4.cell 3 _ rfl
  have f4_3 := F5.t4.free 3
  go_wp2_with fail
  go_region
  go_wp2_with fail
  obtain ⟨e1, e2, e3, e4⟩ := F5.exit hlt _ rfl
  refine bodyPost_ret (results_ctc rfl _ _ _ _ _ _ rfl rfl (load_tok e1 rfl) (load_pl e2 rfl)) rfl ?_
  have htk : tk (c :: r) = .ok 3 [UInt8.ofNat (fold c).toNat] 1 := by (have h9 := H1.out; rw [tk5 HC.out, if_neg (by omega), if_neg (by omega), if_neg (by omega)])
  unfold TokOut
  rw [htk]
  exact ⟨by rw [HFB.out]; rfl, by rw [show pre0 ++ (c :: r).take 1 = pre0 ++ [c] from by simp]; exact e3, e4⟩
set_option maxRecDepth 100000 in
set_option maxHeartbeats 4000000 in
theorem rtoken_other {S : ByteArray} {pre0 r : List Nat} {c : Nat} {t : List UInt8} (T : Txt S.data.toList (pre0 ++ (c :: r)) t) (hS : S.size ≤ 4096) {w : World} {b : Nat} (hb : Rd w b S pre0) (hc : cls c ≠ 2 ∧ cls c ≠ 3 ∧ cls c ≠ 5) :
    Calls Tryz.prog 74 #[ptrV b] w (TokOut w b S pre0 (c :: r)) := by
  have hcm : ((c : Int) == -1) = false := by simp
  have n2 : (cls c == 2) = false := by simp [hc.1]
  have n3 : (cls c == 3) = false := by simp [hc.2.1]
  have n5 : (cls c == 5) = false := by simp [hc.2.2]
  have HC := Lib.hid hc
  clear hc
  have hbb : Blk w b _ := hb
  have h1 := hbb.cell 1 _ rfl
  have h2 := hbb.cell 2 _ rfl
  have h3 := hbb.cell 3 _ rfl
  have h4 := hbb.cell 4 _ rfl
  have hlt := hbb.lt
  have F0 := TkF.init (along start pre0) hb
  go_enter Tryz.func74, Tryz.ntmps74
  go_wp2_with fail
  refine (Look_is (v := (c : Int)) T hS (b := b) F0.rd rfl).mono ?_
  rintro e w1 ⟨rfl, hq1⟩
  have F1 := F0.qd hq1
  clear F0 hq1 h1 h2 h3 h4
  go_wp2_with fail
  refine (rClass_calls _ _).mono ?_
  rintro e w' ⟨rfl, rfl⟩
  have g6_0 : w1.cell? ⟨w.heap.size + 1 + 1 + 1, 0, none⟩ = some (.int .i64 (0)) := F1.t6.cell 0 _ rfl
  have g6_1 : w1.cell? ⟨w.heap.size + 1 + 1 + 1, 1, none⟩ = some (.string ⟨#[]⟩) := F1.t6.cell 1 _ rfl
  have g6_2 : w1.cell? ⟨w.heap.size + 1 + 1 + 1, 2, none⟩ = some (.int .i64 (along start pre0).b) := F1.t6.cell 2 _ rfl
  have g6_3 : w1.cell? ⟨w.heap.size + 1 + 1 + 1, 3, none⟩ = some (.int .i64 (along start pre0).g) := F1.t6.cell 3 _ rfl
  have g6_4 : w1.cell? ⟨w.heap.size + 1 + 1 + 1, 4, none⟩ = some (.int .i64 (along start pre0).l) := F1.t6.cell 4 _ rfl
  have g6_5 : w1.cell? ⟨w.heap.size + 1 + 1 + 1, 5, none⟩ = some (.int .i64 (along start pre0).c) := F1.t6.cell 5 _ rfl
  have f6_0 := F1.t6.free 0
  have f6_1 := F1.t6.free 1
  have g5_0 : w1.cell? ⟨w.heap.size + 1 + 1, 0, none⟩ = some (.int .i64 (along start pre0).b) := F1.t5.cell 0 _ rfl
  have g5_1 : w1.cell? ⟨w.heap.size + 1 + 1, 1, none⟩ = some (.int .i64 (along start pre0).g) := F1.t5.cell 1 _ rfl
  have g5_2 : w1.cell? ⟨w.heap.size + 1 + 1, 2, none⟩ = some (.int .i64 (along start pre0).l) := F1.t5.cell 2 _ rfl
  have g5_3 : w1.cell? ⟨w.heap.size + 1 + 1, 3, none⟩ = some (.int .i64 (along start pre0).c) := F1.t5.cell 3 _ rfl
  have g2_0 : w1.cell? ⟨w.heap.size, 0, none⟩ = some (.int .i64 0) := F1.t2.cell 0 _ rfl
  have f2_0 := F1.t2.free 0
  have g2_1 : w1.cell? ⟨w.heap.size, 1, none⟩ = some (.string ⟨#[]⟩) := F1.t2.cell 1 _ rfl
  have f2_1 := F1.t2.free 1
  have g2_2 : w1.cell? ⟨w.heap.size, 2, none⟩ = some (.int .i64 0) := F1.t2.cell 2 _ rfl
  have f2_2 := F1.t2.free 2
  have g2_3 : w1.cell? ⟨w.heap.size, 3, none⟩ = some (.int .i64 0) := F1.t2.cell 3 _ rfl
  have f2_3 := F1.t2.free 3
  have g2_4 : w1.cell? ⟨w.heap.size, 4, none⟩ = some (.int .i64 0) := F1.t2.cell 4 _ rfl
  have f2_4 := F1.t2.free 4
  have g2_5 : w1.cell? ⟨w.heap.size, 5, none⟩ = some (.int .i64 0) := F1.t2.cell 5 _ rfl
  have f2_5 := F1.t2.free 5
  have g4_0 : w1.cell? ⟨w.heap.size + 1, 0, none⟩ = some (.int .i64 0) := F1.t4.cell 0 _ rfl
  have f4_0 := F1.t4.free 0
  have g4_1 : w1.cell? ⟨w.heap.size + 1, 1, none⟩ = some (.int .i64 0) := F1.t4.cell 1 _ rfl
  have f4_1 := F1.t4.free 1
  have g4_2 : w1.cell? ⟨w.heap.size + 1, 2, none⟩ = some (.int .i64 0) := F1.t4.cell 2 _ rfl
  have f4_2 := F1.t4.free 2
  have g4_3 : w1.cell? ⟨w.heap.size + 1, 3, none⟩ = some (.int .i64 0) := F1.t4.cell 3 _ rfl
  have f4_3 := F1.t4.free 3
  go_wp2_with fail
  go_region
  go_wp2_with fail
  obtain ⟨e1, e2, e3, e4⟩ := F1.exit hlt _ rfl
  refine bodyPost_ret (results_ctc rfl _ _ _ _ _ _ rfl rfl (load_tok e1 rfl) (load_pl e2 rfl)) rfl ?_
  have htk : tk (c :: r) = .bad 41 := tkE HC.out.1 HC.out.2.1 HC.out.2.2
  unfold TokOut
  rw [htk]
  exact ⟨_, _, rfl, e4⟩
/-- every token -/
theorem rtoken_calls {S : ByteArray} {pre0 cs : List Nat} {t : List UInt8} (T : Txt S.data.toList (pre0 ++ cs) t) (hS : S.size ≤ 4096) {w : World} {b : Nat} (hb : Rd w b S pre0) (hend : cs = [] → t = []) :
    Calls Tryz.prog 74 #[ptrV b] w (TokOut w b S pre0 cs) := by
  cases cs with
  | nil =>
    obtain rfl := hend rfl
    refine (rtoken_end T hS hb).mono ?_
    rintro e w' ⟨h1, h2, h3⟩
    unfold TokOut
    simp only [tk]
    exact ⟨h1, by simpa using h2, h3⟩
  | cons c r =>
    by_cases h2 : cls c = 2
    · exact rtoken_name T hS hb h2
    by_cases h3 : cls c = 3
    · exact rtoken_num T hS hb h3
    by_cases h5 : cls c = 5
    · by_cases e1 : c = 8788
      · exact rtoken_gets T hS hb h5 e1
      by_cases e2 : c = 8800
      · exact rtoken_unlike T hS hb h5 e2
      by_cases e3 : c = 58
      · exact rtoken_colon T hS hb h5 e3
      by_cases e4 : c = 33
      · exact rtoken_bang T hS hb h5 e4
      exact rtoken_sign T hS hb h5 ⟨e1, e2, e3, e4⟩
    · exact rtoken_other T hS hb ⟨h2, h3, h5⟩
end Go.Proofs.YtlklijpjacmgpaaGreatDoor

namespace Go.Proofs.YtlklijpjacmgpaaGreatDoor
open Go.RowKit
set_option linter.unusedVariables false
set_option linter.unusedSimpArgs false

set_option maxRecDepth 100000 in
set_option maxHeartbeats 4000000 in
theorem rScan_long (s : ByteArray) (w : World) (h : 4096 < s.size) (hmax : s.size ≤ maxLen) :
    Calls Tryz.prog 35 #[.string s] w (ScanOut w (.bad 2 zeroPl)) := by
  unfold maxLen at hmax
  go_enter Tryz.func35, Tryz.ntmps35
  go_wp2_with fail
  have e1 : Blk _ w.heap.size (plO zeroPl) := Blk.new w (plO zeroPl)
  exact bodyPost_ret (results_ttc rfl _ _ _ _ rfl (load_pl e1 rfl)) rfl ⟨rfl, (Fr.refl No w).alloc _⟩
def ScRel (s : ByteArray) (w wr : World) (b : Nat) (brk : Bool) (t : List UInt8) (R : Res) (gk : Nat) (x5 : Value) : Prop :=
  ∃ (pre cs : List Nat) (acc : List Tok) (a : Option Addr) (ca : Nat), x5 = .slice a acc.length ca ∧ Txt s.data.toList (pre ++ cs) t ∧ R = Res.pre acc (scan brk gk pre cs) ∧ cs.length < gk ∧ acc.length + gk ≤ 4097 ∧
    wr.ownsRow (b + 1) 83 6 (.slice a acc.length ca) acc.length (toksV acc) ∧ Rd wr b s pre ∧ Fr No w wr ∧ Blk wr w.heap.size (plO zeroPl)
set_option maxRecDepth 100000 in
set_option maxHeartbeats 4000000 in
theorem rScan_short (s : ByteArray) (w : World) (hS : s.size ≤ 4096) {cs : List Nat} {t : List UInt8} (T : Txt s.data.toList cs t) :
    Calls Tryz.prog 35 #[.string s] w (ScanOut w (scanOf cs t)) := by
  obtain ⟨i0, hi, hz0, hz1, hz2⟩ := info_parts info_tok
  have hcs : cs.length ≤ 4096 := by have := T.len_le; rw [← Lib.size_eq] at this; omega
  have hd : decide ((4096 : Int) < (s.size : Int)) = false := by simp; omega
  go_enter Tryz.func35, Tryz.ntmps35
  go_wp2_with fail
  refine (Begin_calls s _).mono ?_
  rintro e w1 ⟨b, rfl, hrd, hble, hf1⟩
  have hblk : Blk w1 w.heap.size (plO zeroPl) := (Blk.new w (plO zeroPl)).fr hf1 (fun x => x)
  have hblt := hrd.lt
  have hb2 : w.heap.size < b := by simp at hble; omega
  have hf := ((Fr.refl No w).alloc _).callNo hf1
  clear hf1 hble
  go_wp2_with fail
  go_loopg [5] (cs.length + 1) (fun gk x5 wr => b < wr.heap.size ∧ ScRel s w wr b (!t.isEmpty) t (scanOf cs t) gk x5)
  case atStart => exact ⟨hblt, [], cs, [], none, 0, rfl, T, by rw [Res.pre_nil]; rfl, by omega, by simp; omega, World.ownsRow_nil _ _ _ _, hrd, hf, hblk⟩
  case round =>
    obtain ⟨hbs, pre, cs1, acc, a, ca, rfl, T1, hR, hlen, hacc, ho, hrd, hf, hblk⟩ := hrel
    obtain ⟨n, rfl⟩ : ∃ n, gk = n + 1 := ⟨gk - 1, by omega⟩
    have HR := Lib.hid hR
    clear hR
    go_wp2_with fail
    refine (spaces_calls T1 hS hrd).mono ?_
    rintro e w2 ⟨rfl, hrd2, hfr2⟩
    have hblk2 := hblk.fr hfr2 (by omega)
    have ho2 := own_fr ho hfr2 (fun k hk => by have := (ho.lt k hk).1; omega)
    have hf2 := hf.call hfr2 (fun k hk hkb => by omega)
    have hbs2 : b < w2.heap.size := Nat.lt_of_lt_of_le hbs hfr2.size
    clear hblk ho hf hrd hfr2 hbs
    have hsa := skipped_append cs1
    have T2 : Txt s.data.toList ((pre ++ skipped cs1) ++ skipC false cs1) t := by rw [List.append_assoc, hsa]; exact T1
    have hl2 := skipC_le cs1 false
    cases hsk : skipC false cs1 with
    | nil =>
      rw [hsk] at hsa T2
      cases hB : (!t.isEmpty) with
      | true =>
        have HS := Lib.hid (And.intro hsa (And.intro hsk hB))
        have e40 : spErr true [] = 40 := rfl
        rw [e40]
        clear hsa hsk hB e40
        have g4_0 : w2.cell? ⟨w.heap.size, 0, none⟩ = some (.int .i64 0) := hblk2.cell 0 _ rfl
        have f4_0 := hblk2.free 0
        have g4_1 : w2.cell? ⟨w.heap.size, 1, none⟩ = some (.int .i64 0) := hblk2.cell 1 _ rfl
        have f4_1 := hblk2.free 1
        have g4_2 : w2.cell? ⟨w.heap.size, 2, none⟩ = some (.int .i64 0) := hblk2.cell 2 _ rfl
        have f4_2 := hblk2.free 2
        have g4_3 : w2.cell? ⟨w.heap.size, 3, none⟩ = some (.int .i64 0) := hblk2.cell 3 _ rfl
        have f4_3 := hblk2.free 3
        have r1 : w2.cell? ⟨b, 1, none⟩ = some (.int .i64 (along start (pre ++ skipped cs1)).b) := Blk.cell hrd2 1 _ rfl
        have r2 : w2.cell? ⟨b, 2, none⟩ = some (.int .i64 (along start (pre ++ skipped cs1)).g) := Blk.cell hrd2 2 _ rfl
        have r3 : w2.cell? ⟨b, 3, none⟩ = some (.int .i64 (along start (pre ++ skipped cs1)).l) := Blk.cell hrd2 3 _ rfl
        have r4 : w2.cell? ⟨b, 4, none⟩ = some (.int .i64 (along start (pre ++ skipped cs1)).c) := Blk.cell hrd2 4 _ rfl
        have hne : b ≠ w.heap.size := by omega
        have hne2 : w.heap.size ≠ b := by omega
        go_wp2_with fail
        go_region
        go_wp2_with fail
        obtain ⟨e1, e2⟩ := pl_exit hblk2 hf2 _ _ rfl
        refine bodyPost_ret (results_ttc rfl _ _ _ _ rfl (load_pl e1.drew rfl)) rfl ?_
        obtain ⟨a1, a2, a3⟩ := HS.out
        have hres : scanOf cs t = .bad 40 (along start (pre ++ skipped cs1)) := by
          rw [HR.out]
          simp only [scan, a2, a3, if_true, Res.pre]
          rw [show skipped cs1 = cs1 by simpa using a1]
        unfold ScanOut
        rw [hres]
        exact ⟨rfl, e2.drew⟩
      | false =>
        have ht : t = [] := by simpa using hB
        have HS := Lib.hid (And.intro hsa (And.intro hsk hB))
        have e0 : spErr false [] = 0 := rfl
        rw [e0]
        clear hsk hB e0
        go_wp2_with fail
        refine (rtoken_calls T2 hS hrd2 (fun _ => ht)).mono ?_
        intro e w3 hto
        unfold TokOut at hto
        simp only [tk] at hto
        obtain ⟨rfl, hrd3, hfr3⟩ := hto
        simp only [tokA, plA]
        have hblk3 := hblk2.fr hfr3 (by omega)
        have ho3 := own_fr ho2 hfr3 (fun k hk => by have := (ho2.lt k hk).1; omega)
        have hf3 := hf2.call hfr3 (fun k hk hkb => by omega)
        have hbs3 : b < w3.heap.size := Nat.lt_of_lt_of_le hbs2 hfr3.size
        clear hblk2 ho2 hf2 hrd2 hfr3 hbs2 hrd3
        have g4_0 : w3.cell? ⟨w.heap.size, 0, none⟩ = some (.int .i64 0) := hblk3.cell 0 _ rfl
        have f4_0 := hblk3.free 0
        have g4_1 : w3.cell? ⟨w.heap.size, 1, none⟩ = some (.int .i64 0) := hblk3.cell 1 _ rfl
        have f4_1 := hblk3.free 1
        have g4_2 : w3.cell? ⟨w.heap.size, 2, none⟩ = some (.int .i64 0) := hblk3.cell 2 _ rfl
        have f4_2 := hblk3.free 2
        have g4_3 : w3.cell? ⟨w.heap.size, 3, none⟩ = some (.int .i64 0) := hblk3.cell 3 _ rfl
        have f4_3 := hblk3.free 3
        go_wp2_with ((at_builtin; refine wpList_append_own _ rfl _ _ 73 rfl (b + 1) 83 i0 (.agg #[.int .i64 0, .string ⟨#[]⟩, .int .i64 0, .int .i64 0, .int .i64 0, .int .i64 0]) 6 56 Tryz.underlying73 hi hz0 hz1 hz2 rfl (by decide) _ _ _ rfl (((ho3.alloc _).alloc _).alloc _) ⟨w3.heap.size + 1 + 1, 0, none⟩ 1 1 (tokC ⟨0, [], along start (pre ++ skipped cs1)⟩) rfl rfl ?c1 ?c2 ?c3 ?c4 ?c5 ?_; (case c1 => exact new_row2 (by simp)); (case c2 => exact tokC_one _); (case c3 => (unfold maxLen; omega)); (case c4 => omega); (case c5 => (simp; omega)); intro v6 w6 hown6 hgr6 _; have g8 := hgr6.cell ((((Blk.new w3 (Obj.cells #[.int .i64 0, .string ⟨#[]⟩, .int .i64 (along start (pre ++ skipped cs1)).b, .int .i64 (along start (pre ++ skipped cs1)).g, .int .i64 (along start (pre ++ skipped cs1)).l, .int .i64 (along start (pre ++ skipped cs1)).c] 83)).alloc (Obj.cells (plA (along start (pre ++ skipped cs1))) 26)).alloc (Obj.cells #[.int .i64 0, .string ⟨#[]⟩, .int .i64 (along start (pre ++ skipped cs1)).b, .int .i64 (along start (pre ++ skipped cs1)).g, .int .i64 (along start (pre ++ skipped cs1)).l, .int .i64 (along start (pre ++ skipped cs1)).c] 83)).cell 0 (.int .i64 0) rfl) (fun e => by have := (ho3.lt _ e.symm).2; simp at this); have hblk6 : Blk w6 w.heap.size (plO zeroPl) := (hgr6.block _ (((hblk3.alloc _).alloc _).alloc _).lt (fun e => by have := (ho3.lt _ e.symm).1; omega)).trans (((hblk3.alloc _).alloc _).alloc _); have f6 := (((hf3.alloc (Obj.cells #[.int .i64 0, .string ⟨#[]⟩, .int .i64 (along start (pre ++ skipped cs1)).b, .int .i64 (along start (pre ++ skipped cs1)).g, .int .i64 (along start (pre ++ skipped cs1)).l, .int .i64 (along start (pre ++ skipped cs1)).c] 83)).alloc (Obj.cells (plA (along start (pre ++ skipped cs1))) 26)).alloc (Obj.cells #[.int .i64 0, .string ⟨#[]⟩, .int .i64 (along start (pre ++ skipped cs1)).b, .int .i64 (along start (pre ++ skipped cs1)).g, .int .i64 (along start (pre ++ skipped cs1)).l, .int .i64 (along start (pre ++ skipped cs1)).c] 83)).grown hgr6 (fun k hk hlt => by have := (ho3.lt _ hk).1; omega); clear g4_0 g4_1 g4_2 g4_3 f4_0 f4_1 f4_2 f4_3; have g4_0 := hblk6.cell 0 (.int .i64 0) rfl; have g4_1 := hblk6.cell 1 (.int .i64 0) rfl; have g4_2 := hblk6.cell 2 (.int .i64 0) rfl; have g4_3 := hblk6.cell 3 (.int .i64 0) rfl; have f4_0 := hblk6.free 0; have f4_1 := hblk6.free 1; have f4_2 := hblk6.free 2; have f4_3 := hblk6.free 3))
        obtain ⟨a6, c6, rfl⟩ := own_form hown6
        obtain ⟨e1, e2⟩ := pl_exit hblk6 f6 zeroPl _ rfl
        have hown7 := (own_fr hown6 ((Fr.refl (· = w.heap.size) w6).setCell (a := ⟨w.heap.size, 0, none⟩) (.int .i64 0) (fun _ => rfl)) (fun k hk => by have := (hown6.lt _ hk).1; omega))
        have hown8 := (own_fr hown7 ((Fr.refl (· = w.heap.size) _).setCell (a := ⟨w.heap.size, 1, none⟩) (.int .i64 0) (fun _ => rfl)) (fun k hk => by have := (hown6.lt _ hk).1; omega))
        have hown9 := (own_fr hown8 ((Fr.refl (· = w.heap.size) _).setCell (a := ⟨w.heap.size, 2, none⟩) (.int .i64 0) (fun _ => rfl)) (fun k hk => by have := (hown6.lt _ hk).1; omega))
        have hownA := (own_fr hown9 ((Fr.refl (· = w.heap.size) _).setCell (a := ⟨w.heap.size, 3, none⟩) (.int .i64 0) (fun _ => rfl)) (fun k hk => by have := (hown6.lt _ hk).1; omega))
        refine bodyPost_ret (results_ttc rfl _ _ _ _ rfl (load_pl e1 rfl)) rfl ?_
        obtain ⟨a1, a2, a3⟩ := HS.out
        have hres : scanOf cs t = .ok (acc ++ [⟨0, [], along start (pre ++ skipped cs1)⟩]) := by
          rw [HR.out]
          simp only [scan, a2, a3, Res.pre]
          rw [show skipped cs1 = cs1 by simpa using a1]
          rfl
        unfold ScanOut
        rw [hres]
        refine ⟨a6, c6, by rw [List.length_append]; rfl, ?_, e2⟩
        have := own_mono hownA (B' := w.heap.size) (by omega)
        simpa [toksV] using this
    | cons c r =>
      have e0 : ∀ B, spErr B (c :: r) = 0 := fun _ => rfl
      rw [e0]
      rw [hsk] at hsa T2 hl2
      have HS := Lib.hid (And.intro hsa hsk)
      clear hsa hsk e0
      simp only [List.length_cons] at hl2
      go_wp2_with fail
      refine (rtoken_calls T2 hS hrd2 (fun h => by cases h)).mono ?_
      intro e w3 hto
      unfold TokOut at hto
      cases htk : tk (c :: r) with
      | bad m =>
        rw [htk] at hto
        obtain ⟨k, x, rfl, hfr3⟩ := hto
        have hm := tk_bad htk
        have hm0 : (m != 0) = true := by simp; omega
        have HTK := Lib.hid htk
        simp only [tokA, plA]
        have hblk3 := hblk2.fr hfr3 (by omega)
        have hf3 := hf2.call hfr3 (fun k hk hkb => by omega)
        clear hblk2 ho2 hf2 hrd2 hfr3 hbs2 htk hm
        have hw0 : w.heap.size < w3.heap.size := hblk3.lt
        have hsz3 : ((w3.alloc (Obj.cells #[.int .i64 k, .string x, .int .i64 (along start (pre ++ skipped cs1)).b, .int .i64 (along start (pre ++ skipped cs1)).g, .int .i64 (along start (pre ++ skipped cs1)).l, .int .i64 (along start (pre ++ skipped cs1)).c] 83)).heap.size = w3.heap.size + 1) := by simp
        have hB := Blk.new (w3.alloc (Obj.cells #[.int .i64 k, .string x, .int .i64 (along start (pre ++ skipped cs1)).b, .int .i64 (along start (pre ++ skipped cs1)).g, .int .i64 (along start (pre ++ skipped cs1)).l, .int .i64 (along start (pre ++ skipped cs1)).c] 83)) (Obj.cells #[.int .i64 (along start (pre ++ skipped cs1)).b, .int .i64 (along start (pre ++ skipped cs1)).g, .int .i64 (along start (pre ++ skipped cs1)).l, .int .i64 (along start (pre ++ skipped cs1)).c] 26)
        rw [hsz3] at hB
        have hblk4 := (hblk3.alloc (Obj.cells #[.int .i64 k, .string x, .int .i64 (along start (pre ++ skipped cs1)).b, .int .i64 (along start (pre ++ skipped cs1)).g, .int .i64 (along start (pre ++ skipped cs1)).l, .int .i64 (along start (pre ++ skipped cs1)).c] 83)).alloc (Obj.cells #[.int .i64 (along start (pre ++ skipped cs1)).b, .int .i64 (along start (pre ++ skipped cs1)).g, .int .i64 (along start (pre ++ skipped cs1)).l, .int .i64 (along start (pre ++ skipped cs1)).c] 26)
        have hf4 := (hf3.alloc (Obj.cells #[.int .i64 k, .string x, .int .i64 (along start (pre ++ skipped cs1)).b, .int .i64 (along start (pre ++ skipped cs1)).g, .int .i64 (along start (pre ++ skipped cs1)).l, .int .i64 (along start (pre ++ skipped cs1)).c] 83)).alloc (Obj.cells #[.int .i64 (along start (pre ++ skipped cs1)).b, .int .i64 (along start (pre ++ skipped cs1)).g, .int .i64 (along start (pre ++ skipped cs1)).l, .int .i64 (along start (pre ++ skipped cs1)).c] 26)
        clear hblk3 hf3 hsz3
        go_wp2_with fail
        generalize ((w3.alloc (Obj.cells #[.int .i64 k, .string x, .int .i64 (along start (pre ++ skipped cs1)).b, .int .i64 (along start (pre ++ skipped cs1)).g, .int .i64 (along start (pre ++ skipped cs1)).l, .int .i64 (along start (pre ++ skipped cs1)).c] 83)).alloc (Obj.cells #[.int .i64 (along start (pre ++ skipped cs1)).b, .int .i64 (along start (pre ++ skipped cs1)).g, .int .i64 (along start (pre ++ skipped cs1)).l, .int .i64 (along start (pre ++ skipped cs1)).c] 26)) = w4 at hB hblk4 hf4 ⊢
        have g4_0 : w4.cell? ⟨w.heap.size, 0, none⟩ = some (.int .i64 0) := hblk4.cell 0 _ rfl
        have f4_0 := hblk4.free 0
        have g4_1 : w4.cell? ⟨w.heap.size, 1, none⟩ = some (.int .i64 0) := hblk4.cell 1 _ rfl
        have f4_1 := hblk4.free 1
        have g4_2 : w4.cell? ⟨w.heap.size, 2, none⟩ = some (.int .i64 0) := hblk4.cell 2 _ rfl
        have f4_2 := hblk4.free 2
        have g4_3 : w4.cell? ⟨w.heap.size, 3, none⟩ = some (.int .i64 0) := hblk4.cell 3 _ rfl
        have f4_3 := hblk4.free 3
        have p0 : w4.cell? ⟨w3.heap.size + 1, 0, none⟩ = some (.int .i64 (along start (pre ++ skipped cs1)).b) := hB.cell 0 _ rfl
        have p1 : w4.cell? ⟨w3.heap.size + 1, 1, none⟩ = some (.int .i64 (along start (pre ++ skipped cs1)).g) := hB.cell 1 _ rfl
        have p2 : w4.cell? ⟨w3.heap.size + 1, 2, none⟩ = some (.int .i64 (along start (pre ++ skipped cs1)).l) := hB.cell 2 _ rfl
        have p3 : w4.cell? ⟨w3.heap.size + 1, 3, none⟩ = some (.int .i64 (along start (pre ++ skipped cs1)).c) := hB.cell 3 _ rfl
        have hne : w.heap.size ≠ w3.heap.size + 1 := by omega
        have hne2 : w3.heap.size + 1 ≠ w.heap.size := by omega
        go_region
        go_wp2_with fail
        obtain ⟨e1, e2⟩ := pl_exit hblk4 hf4 _ _ rfl
        refine bodyPost_ret (results_ttc rfl _ _ _ _ rfl (load_pl e1.drew rfl)) rfl ?_
        obtain ⟨a1, a2⟩ := HS.out
        have hres : scanOf cs t = .bad m (along start (pre ++ skipped cs1)) := by
          rw [HR.out]
          simp only [scan, a2, HTK.out, Res.pre]
        unfold ScanOut
        rw [hres]
        exact ⟨rfl, e2.drew⟩
      | ok k x m =>
        rw [htk] at hto
        obtain ⟨rfl, hrd3, hfr3⟩ := hto
        obtain ⟨m1, m2, hk⟩ := tk_ok htk
        have hk0 : (k == 0) = false := by simp; omega
        have HTK := Lib.hid htk
        simp only [tokA, plA]
        have hblk3 := hblk2.fr hfr3 (by omega)
        have ho3 := own_fr ho2 hfr3 (fun k hk => by have := (ho2.lt k hk).1; omega)
        have hf3 := hf2.call hfr3 (fun k hk hkb => by omega)
        have hbs3 : b < w3.heap.size := Nat.lt_of_lt_of_le hbs2 hfr3.size
        clear hblk2 ho2 hf2 hrd2 hfr3 hbs2 htk hk
        have g4_0 : w3.cell? ⟨w.heap.size, 0, none⟩ = some (.int .i64 0) := hblk3.cell 0 _ rfl
        have f4_0 := hblk3.free 0
        have g4_1 : w3.cell? ⟨w.heap.size, 1, none⟩ = some (.int .i64 0) := hblk3.cell 1 _ rfl
        have f4_1 := hblk3.free 1
        have g4_2 : w3.cell? ⟨w.heap.size, 2, none⟩ = some (.int .i64 0) := hblk3.cell 2 _ rfl
        have f4_2 := hblk3.free 2
        have g4_3 : w3.cell? ⟨w.heap.size, 3, none⟩ = some (.int .i64 0) := hblk3.cell 3 _ rfl
        have f4_3 := hblk3.free 3
        go_wp2_with ((at_builtin; refine wpList_append_own _ rfl _ _ 73 rfl (b + 1) 83 i0 (.agg #[.int .i64 0, .string ⟨#[]⟩, .int .i64 0, .int .i64 0, .int .i64 0, .int .i64 0]) 6 56 Tryz.underlying73 hi hz0 hz1 hz2 rfl (by decide) _ _ _ rfl (((ho3.alloc _).alloc _).alloc _) ⟨w3.heap.size + 1 + 1, 0, none⟩ 1 1 (tokC ⟨k, x, along start (pre ++ skipped cs1)⟩) rfl rfl ?c1 ?c2 ?c3 ?c4 ?c5 ?_; (case c1 => exact new_row2 (by simp)); (case c2 => exact tokC_one _); (case c3 => (unfold maxLen; omega)); (case c4 => omega); (case c5 => (simp; omega)); intro v6 w6 hown6 hgr6 _; have g8 := hgr6.cell ((((Blk.new w3 (Obj.cells #[.int .i64 k, .string ⟨x.toArray⟩, .int .i64 (along start (pre ++ skipped cs1)).b, .int .i64 (along start (pre ++ skipped cs1)).g, .int .i64 (along start (pre ++ skipped cs1)).l, .int .i64 (along start (pre ++ skipped cs1)).c] 83)).alloc (Obj.cells (plA (along start (pre ++ skipped cs1))) 26)).alloc (Obj.cells #[.int .i64 k, .string ⟨x.toArray⟩, .int .i64 (along start (pre ++ skipped cs1)).b, .int .i64 (along start (pre ++ skipped cs1)).g, .int .i64 (along start (pre ++ skipped cs1)).l, .int .i64 (along start (pre ++ skipped cs1)).c] 83)).cell 0 (.int .i64 k) rfl) (fun e => by have := (ho3.lt _ e.symm).2; simp at this); have hblk6 : Blk w6 w.heap.size (plO zeroPl) := (hgr6.block _ (((hblk3.alloc _).alloc _).alloc _).lt (fun e => by have := (ho3.lt _ e.symm).1; omega)).trans (((hblk3.alloc _).alloc _).alloc _); have f6 := (((hf3.alloc (Obj.cells #[.int .i64 k, .string ⟨x.toArray⟩, .int .i64 (along start (pre ++ skipped cs1)).b, .int .i64 (along start (pre ++ skipped cs1)).g, .int .i64 (along start (pre ++ skipped cs1)).l, .int .i64 (along start (pre ++ skipped cs1)).c] 83)).alloc (Obj.cells (plA (along start (pre ++ skipped cs1))) 26)).alloc (Obj.cells #[.int .i64 k, .string ⟨x.toArray⟩, .int .i64 (along start (pre ++ skipped cs1)).b, .int .i64 (along start (pre ++ skipped cs1)).g, .int .i64 (along start (pre ++ skipped cs1)).l, .int .i64 (along start (pre ++ skipped cs1)).c] 83)).grown hgr6 (fun k hk hlt => by have := (ho3.lt _ hk).1; omega); clear g4_0 g4_1 g4_2 g4_3 f4_0 f4_1 f4_2 f4_3; have g4_0 := hblk6.cell 0 (.int .i64 0) rfl; have g4_1 := hblk6.cell 1 (.int .i64 0) rfl; have g4_2 := hblk6.cell 2 (.int .i64 0) rfl; have g4_3 := hblk6.cell 3 (.int .i64 0) rfl; have f4_0 := hblk6.free 0; have f4_1 := hblk6.free 1; have f4_2 := hblk6.free 2; have f4_3 := hblk6.free 3))
        obtain ⟨a6, c6, rfl⟩ := own_form hown6
        obtain ⟨a1, a2⟩ := HS.out
        go_roundg n
        case measure => omega
        case rel =>
          refine ⟨Nat.lt_of_lt_of_le (by simp; omega) hgr6.size, pre ++ skipped cs1 ++ (c :: r).take m, (c :: r).drop m, acc ++ [⟨k, x, along start (pre ++ skipped cs1)⟩], a6, c6, by simp, ?_, ?_, ?_, ?_, ?_, ?_, f6, hblk6⟩
          · rw [List.append_assoc (pre ++ skipped cs1), List.take_append_drop]; exact T2
          · rw [HR.out]
            simp only [scan, a2, HTK.out]
            rw [Res.pre_cons]
          · simp only [List.length_drop, List.length_cons]; omega
          · simp; omega
          · simpa [toksV] using hown6
          · exact (((hrd3.alloc _).alloc _).alloc _).fr (Fr.grown (S := fun q => (Value.slice a acc.length ca).ownBlock = some q) (Fr.refl _ _) hgr6 (fun q hq _ => hq)) (fun hq => by have := (ho3.lt _ hq).1; omega)
end Go.Proofs.YtlklijpjacmgpaaGreatDoor

namespace Go.Proofs.YtlklijpjacmgpaaGreatDoor
open Go.RowKit
set_option linter.unusedVariables false
set_option linter.unusedSimpArgs false

set_option maxHeartbeats 400000 in
theorem Num_calls (n : Int) (w : World) : Calls Tryz.prog 9 #[.int .i64 n] w fun e w' => e = .returned (.int .i64 n) ∧ w = w' := by
  go_enter Tryz.func9, Tryz.ntmps9
  go_wp2
  go_ret
  exact ⟨rfl, rfl⟩
end Go.Proofs.YtlklijpjacmgpaaGreatDoor

namespace Go.Proofs.YtlklijpjacmgpaaGreatDoor
open Go.RowKit
set_option linter.unusedVariables false
set_option linter.unusedSimpArgs false
attribute [local go_sem ↓] Go.wp_at_zero Go.wp_at_succ

theorem rScan_any (s : ByteArray) (w : World) (hs : s.size ≤ maxLen) : Calls Tryz.prog 35 #[.string s] w (ScanGot w (scanS s.data.toList)) := by
  have hl := Lib.size_eq s
  by_cases h : 4096 < s.size
  · have e : scanS s.data.toList = .bad 2 zeroPl := if_pos (by omega)
    rw [e]
    exact (rScan_long s w h hs).mono fun _ _ h => h.got
  · rw [scanS_eq (txt_of _) (by omega)]
    exact (rScan_short s w (by omega) (txt_of _)).mono fun _ _ h => h.got
end Go.Proofs.YtlklijpjacmgpaaGreatDoor

namespace Go.Proofs.YtlklijpjacmgpaaGreatDoor
open Go.RowKit
set_option linter.unusedVariables false
set_option linter.unusedSimpArgs false

theorem both_scans (s : ByteArray) (hs : s.size ≤ maxLen) : ∃ l n p, l.length ≤ 4097 ∧ (∀ w, Tb w → Calls Tryz.prog 62 #[.string s] w (ScanG w l n p)) ∧ ∀ w, Calls Tryz.prog 35 #[.string s] w (ScanG w l n p) :=
  ⟨_, _, _, scan_len s.data.toList, fun w hT => Scan_any s w hT hs, fun w => rScan_any s w hs⟩
end Go.Proofs.YtlklijpjacmgpaaGreatDoor

