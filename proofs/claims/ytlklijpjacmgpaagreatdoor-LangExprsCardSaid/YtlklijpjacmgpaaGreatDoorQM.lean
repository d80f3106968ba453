/- CopyTexts; the walk of LangExprs. -/
import Derived.Test.YtlklijpjacmgpaaGreatDoorQL
import Derived.Test.YtlklijpjacmgpaaGreatDoorNE
import Derived.Test.YtlklijpjacmgpaaGreatDoorQN
import Derived.Test.YtlklijpjacmgpaaGreatDoorRows
import Derived.ProofKit
import Derived.SliceStrings
namespace Go.Proofs.YtlklijpjacmgpaaGreatDoor
open Go.RowKit Go.Maps
set_option linter.unusedVariables false
set_option linter.unusedSimpArgs false
attribute [local go_sem ↓] Go.wp_at_zero Go.wp_at_succ

set_option maxRecDepth 100000 in
set_option maxHeartbeats 4000000 in
theorem langExprs_calls {w : World} {Nv : Value} {nm : List (List UInt8)} (s : ByteArray) (hs : s.size ≤ maxLen) (hT : Tb w) (h : NmIn w Nv nm) (hss : ∀ x ∈ nm, x.length ≤ maxLen) (hb : nm.length * 16 ≤ 140737488355328) (h0 : ∀ c, Nv = .slice none 0 c → c = 0) :
    Calls Tryz.prog 3 #[.string s, Nv] w fun e w' => e = .returned (.bool true) ∧ Fr No w w' := by
  have hl : nm.length ≤ maxLen := by unfold maxLen; omega
  obtain ⟨aN, cN, rfl, _, _⟩ := id h
  go_enter Tryz.func3, Tryz.ntmps3
  go_wp2_with fail
  refine (awake_calls hT).mono ?_
  rintro e w1 ⟨rfl, hf1⟩
  go_wp2_with fail
  refine (CopyTexts_calls (h.fr hf1) hb h0).mono ?_
  rintro e w2 ⟨v, rfl, hv, hf2⟩
  have hF2 := hf1.callNo hf2
  obtain ⟨av, cv, rfl, _, _⟩ := id hv
  go_wp2_with fail
  refine (Expr_calls s hs (hT.no hF2) hv hss hl).mono ?_
  rintro e w3 ⟨r, hr, hf3, rfl⟩
  have hF3 := hF2.callNo hf3
  unfold plA
  go_wp2_with fail
  have hal := (Fr.refl No w3).alloc (plaO (exPl r (exprS nm s.data.toList)))
  have hB4 := Blk.new w3 (plaO (exPl r (exprS nm s.data.toList)))
  refine (rExpr_calls s hs ((h.fr hF3).fr hal) hss hl).mono ?_
  rintro e w4 ⟨r', hr', hf4, rfl⟩
  obtain rfl := NmsR.det hr hr'
  have hB5 := hB4.fr hf4 (fun x => x)
  have hF4 := (hF3.callNo hal).callNo hf4
  obtain ⟨X, hX⟩ : ∃ X : ByteArray, (⟨(exTx r (exprS nm s.data.toList)).toArray⟩ : ByteArray) = X := ⟨_, rfl⟩
  obtain ⟨p, hp⟩ : ∃ p, exPl r (exprS nm s.data.toList) = p := ⟨_, rfl⟩
  obtain ⟨c, hc⟩ : ∃ c, exCd r (exprS nm s.data.toList) = c := ⟨_, rfl⟩
  rw [hX, hp, hc]
  rw [hp] at hB5
  have hXX : (X.toList == X.toList) = true := by simp
  unfold plA
  have hlt5 := hB5.lt
  have RB : ∀ i, w4.cell? ⟨w3.heap.size, i, none⟩ = (#[.int .i64 p.b, .int .i64 p.g, .int .i64 p.l, .int .i64 p.c] : Array Value)[i]? := Blk.all hB5
  have hal5 := (hF4.alloc (plaO p))
  have hne5 : w3.heap.size ≠ w4.heap.size := by omega
  go_wp2_with fail
  refine (Num_calls _ _).mono ?_
  rintro e w' ⟨rfl, rfl⟩
  go_wp2_with fail
  refine (place_same p _).mono ?_
  rintro e w6 ⟨rfl, hf6⟩
  go_wp2_with fail
  go_ret
  exact ⟨rfl, hal5.callNo hf6⟩
end Go.Proofs.YtlklijpjacmgpaaGreatDoor
