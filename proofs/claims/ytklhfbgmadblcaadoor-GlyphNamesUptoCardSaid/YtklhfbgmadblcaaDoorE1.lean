/- The laws' helpers: Num, SamePlace, awake. -/
import Derived.Test.YtklhfbgmadblcaaDoorCA
namespace Go.Proofs.YtklhfbgmadblcaaDoor
open Go.RowKit
set_option linter.unusedVariables false
set_option linter.unusedSimpArgs false

set_option maxHeartbeats 400000 in
theorem Num_calls (n : Int) (w : World) : Calls Tryd.prog 20 #[.int .i64 n] w fun e w' => e = .returned (.int .i64 n) ∧ w = w' := by
  go_enter Tryd.func20, Tryd.ntmps20
  go_wp2
  go_ret
  exact ⟨rfl, rfl⟩

theorem dec2 : decText 2 = [50] := by
  unfold decText
  rw [if_neg (by omega), dig_pos (by omega) (by omega), show 2 / 10 = 0 from rfl, dig_zero]
  rfl
set_option exponentiation.threshold 2000 in
theorem awake_scan : scanOf [945, 32, 8788, 32, 50, 120] [] = .ok [⟨1, [206, 177], ⟨0, 0, 1, 1⟩⟩, ⟨3, [58, 61], ⟨3, 2, 1, 3⟩⟩, ⟨2, [50], ⟨7, 4, 1, 5⟩⟩, ⟨1, [120], ⟨8, 5, 1, 6⟩⟩, ⟨0, [], ⟨9, 6, 1, 7⟩⟩] := by
  have h : ¬ (2 ^ 1024 ≤ 2) := by decide +kernel
  simp [scanOf, scan, skipC, skipped, tk, part, digit, cls, isBlank, isLetter, isDigit, isMark, isSign, digVal, dec2, Res.cons, enc, along, behind, start, h]

theorem awake_txt : Txt (⟨#[206, 177, 32, 226, 137, 148, 32, 50, 120]⟩ : ByteArray).data.toList [945, 32, 8788, 32, 50, 120] [] :=
  ⟨rfl, by decide, rfl⟩

set_option maxRecDepth 100000 in
set_option maxHeartbeats 2000000 in
theorem awake_calls (w : World) (hT : Tb w) : Calls Tryd.prog 13 #[] w fun e w' => e = .returned (.bool true) ∧ Fr No w w' := by
  have hS := Scan_short ⟨#[206, 177, 32, 226, 137, 148, 32, 50, 120]⟩ w hT (by decide) awake_txt
  rw [awake_scan] at hS
  go_enter Tryd.func13, Tryd.ntmps13
  go_wp2_with fail
  refine hS.mono ?_
  rintro e w1 ⟨a, c, rfl, ho, hf⟩
  rcases own_cases ho with ⟨_, hn, _⟩ | ⟨g, cap, hsl, hB, hg, hcap⟩
  · simp at hn
  simp only [Value.slice.injEq] at hsl
  obtain ⟨rfl, _, rfl⟩ := hsl
  have t0 : w1.cell? ⟨g, 1, none⟩ = some (.string ⟨#[206, 177]⟩) := own_cell ho rfl
  have t1 : w1.cell? ⟨g, 7, none⟩ = some (.string ⟨#[58, 61]⟩) := own_cell ho rfl
  have t2 : w1.cell? ⟨g, 13, none⟩ = some (.string ⟨#[50]⟩) := own_cell ho rfl
  have t3 : w1.cell? ⟨g, 19, none⟩ = some (.string ⟨#[120]⟩) := own_cell ho rfl
  have t4 : w1.cell? ⟨g, 24, none⟩ = some (.int .i64 0) := own_cell ho rfl
  simp only [List.length_cons, List.length_nil, Nat.zero_add, Nat.reduceAdd, plA] at *
  go_wp2_with fail
  refine (Class_calls _ _).mono ?_
  rintro e w' ⟨rfl, rfl⟩
  have hcl : cls 945 = 2 := by decide
  rw [hcl]
  go_wp2_with fail
  go_ret
  exact ⟨rfl, hf.alloc _⟩
end Go.Proofs.YtklhfbgmadblcaaDoor
