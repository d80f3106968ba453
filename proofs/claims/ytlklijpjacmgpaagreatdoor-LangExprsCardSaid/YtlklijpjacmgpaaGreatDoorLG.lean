/- Expressions: product and sum; all three by induction on the fuel (printed by gen_lg.py). -/
import Derived.Test.YtlklijpjacmgpaaGreatDoorLF
namespace Go.Proofs.YtlklijpjacmgpaaGreatDoor
open Go.RowKit
set_option linter.unusedVariables false
set_option linter.unusedSimpArgs false
attribute [local go_sem ↓] Go.wp_at_zero Go.wp_at_succ

set_option maxRecDepth 100000 in
set_option maxHeartbeats 4000000 in
theorem product_step {n : Nat} (ih : ∀ k, k ≤ n → ExpC k) (w : World) (b : Nat) (lv nv mv : Value) (o : Nat) (toks r : List Tok) (nm : List (List UInt8)) (hl : toks.length ≤ 5000) (hnl : nm.length ≤ 1000) (ho : o ≤ 16) (hm : 4 * r.length + 2 ≤ n + 1) (h : Rdr w b lv nv mv o toks r) (hn : NmAt w b nv nm) :
    Calls Tryz.prog 93 #[.pointer (some ⟨b, 0, none⟩)] w (ExOut w b lv nv mv o toks (prodS (n + 1) nm o r)) := by
  have hg := h.good
  have hbw := h.bl
  obtain ⟨res, hres⟩ : ∃ res, prodS (n + 1) nm o r = res := ⟨_, rfl⟩
  rw [hres]
  simp only [prodS] at hres
  go_enter Tryz.func93, Tryz.ntmps93
  go_wp2_with fail
  refine ((ih n (Nat.le_refl _)).un w b lv nv mv o toks r nm hl hnl ho (by omega) h hn).mono ?_
  rintro e w1 ⟨hf1, hm1⟩
  have hn1 := hn.no hf1
  clear h hn
  cases hu : unS n nm o r with
  | error ep =>
    rw [hu] at hm1 hres
    obtain ⟨c, p⟩ := ep
    simp only [Threw] at hm1
    subst hm1 hres
    go_wp2_with fail
    exact ⟨rfl, hf1, rfl⟩
  | ok ar =>
    rw [hu] at hm1 hres
    obtain ⟨a0, r0⟩ := ar
    obtain ⟨v0, rfl, hN0, hR0⟩ := hm1
    obtain ⟨ty0, vc0, rfl⟩ := hN0.form
    simp only at hres
    have hlt0 := ((ex_len nm n).un hg hu).2
    go_wp2_with fail
    go_loopg [3] r0.length (fun gk x3 wr => ∃ (k : Nat) (a : Nd) (r1 : List Tok) (ty : TypeId) (vc : Array Value), gk = r1.length ∧ x3 = .iface ty (.agg vc) ∧ prodL k nm o a r1 = res ∧ k ≤ n ∧ 4 * r1.length + 2 ≤ k ∧ NdIs wr w.heap.size a (.iface ty (.agg vc)) ∧ Rdr wr b lv nv mv o toks r1 ∧ NmAt wr b nv nm ∧ Fr (· = b) w wr)
    case atStart => exact ⟨n, a0, r0, ty0, vc0, rfl, rfl, hres, Nat.le_refl _, by omega, hN0, hR0, hn1, hf1⟩
    case round =>
      clear hN0 hR0 hn1 hf1 hres hu hlt0 hm hg
      obtain ⟨k, a, r1, ty, vc, hgk, rfl, hres, hkn, hkm, hN, hR, hn2, hf2⟩ := hrel
      have hg := hR.good
      obtain ⟨k, rfl⟩ : ∃ k', k = k' + 1 := ⟨k - 1, by omega⟩
      simp only [prodL] at hres
      have HG := Lib.hid hgk
      clear hgk
      go_wp2_with fail
      refine (is_rdr (by omega) [42] hR).mono ?_
      rintro e w2 ⟨rfl, hR2, hf3⟩
      have hn3 := hn2.no hf3
      have hN2 := hN.fr hbw hf3
      have hf4 := hf2.call hf3 (fun _ _ x => x)
      clear hR hn2 hN hf2 hf3
      cases h42 : isT [42] r1 with
      | true =>
        rw [if_pos h42] at hres
        rw [h42] at hR2
        simp only [if_true] at hR2
        have hlt := isT_lt hg h42
        go_wp2_with fail
        refine ((ih k (by omega)).un w2 b lv nv mv o toks (passT r1) nm hl hnl ho (by omega) hR2 hn3).mono ?_
        rintro e w3 ⟨hf5, hm5⟩
        have hf6 := hf4.call hf5 (fun _ _ x => x)
        have hn5 := hn3.no hf5
        have hN5 := hN2.fr hbw hf5
        cases hu : unS k nm o (passT r1) with
        | error ep =>
          rw [hu] at hm5 hres
          obtain ⟨c, p⟩ := ep
          simp only [Threw] at hm5
          subst hm5 hres
          go_wp2_with fail
          exact ⟨rfl, hf6, rfl⟩
        | ok ar =>
          rw [hu] at hm5 hres
          obtain ⟨a2, r2⟩ := ar
          obtain ⟨v2, rfl, hN6, hR6⟩ := hm5
          obtain ⟨ty2, vc2, rfl⟩ := hN6.form
          simp only at hres
          have hl2 := ((ex_len nm k).un hg.pass hu).2
          go_wp2_with fail
          go_roundg r2.length
          case measure => rw [HG.out]; omega
          case rel => exact ⟨k, .two 42 a a2, r2, _, _, rfl, rfl, hres, by omega, by omega, ⟨_, _, hN5, hN6.mono hf4.size, rfl⟩, hR6, hn5, hf6⟩
      | false =>
        rw [if_neg (by simp [h42])] at hres
        rw [h42] at hR2
        simp only [Bool.false_eq_true, if_false] at hR2
        have hR := hR2
        have hn2 := hn3
        have hN := hN2
        have hf2 := hf4
        clear hR2 hn3 hN2 hf4
        go_wp2_with fail
        refine (is_rdr (by omega) [47] hR).mono ?_
        rintro e w2 ⟨rfl, hR2, hf3⟩
        have hn3 := hn2.no hf3
        have hN2 := hN.fr hbw hf3
        have hf4 := hf2.call hf3 (fun _ _ x => x)
        clear hR hn2 hN hf2 hf3
        cases h47 : isT [47] r1 with
        | true =>
          rw [if_pos h47] at hres
          rw [h47] at hR2
          simp only [if_true] at hR2
          have hlt := isT_lt hg h47
          go_wp2_with fail
          refine ((ih k (by omega)).un w2 b lv nv mv o toks (passT r1) nm hl hnl ho (by omega) hR2 hn3).mono ?_
          rintro e w3 ⟨hf5, hm5⟩
          have hf6 := hf4.call hf5 (fun _ _ x => x)
          have hn5 := hn3.no hf5
          have hN5 := hN2.fr hbw hf5
          cases hu : unS k nm o (passT r1) with
          | error ep =>
            rw [hu] at hm5 hres
            obtain ⟨c, p⟩ := ep
            simp only [Threw] at hm5
            subst hm5 hres
            go_wp2_with fail
            exact ⟨rfl, hf6, rfl⟩
          | ok ar =>
            rw [hu] at hm5 hres
            obtain ⟨a2, r2⟩ := ar
            obtain ⟨v2, rfl, hN6, hR6⟩ := hm5
            obtain ⟨ty2, vc2, rfl⟩ := hN6.form
            simp only at hres
            have hl2 := ((ex_len nm k).un hg.pass hu).2
            go_wp2_with fail
            go_roundg r2.length
            case measure => rw [HG.out]; omega
            case rel => exact ⟨k, .two 47 a a2, r2, _, _, rfl, rfl, hres, by omega, by omega, ⟨_, _, hN5, hN6.mono hf4.size, rfl⟩, hR6, hn5, hf6⟩
        | false =>
          rw [if_neg (by simp [h47])] at hres
          rw [h47] at hR2
          simp only [Bool.false_eq_true, if_false] at hR2
          have hR := hR2
          have hn2 := hn3
          have hN := hN2
          have hf2 := hf4
          clear hR2 hn3 hN2 hf4
          go_wp2_with fail
          refine (is_rdr (by omega) [37] hR).mono ?_
          rintro e w2 ⟨rfl, hR2, hf3⟩
          have hn3 := hn2.no hf3
          have hN2 := hN.fr hbw hf3
          have hf4 := hf2.call hf3 (fun _ _ x => x)
          clear hR hn2 hN hf2 hf3
          cases h37 : isT [37] r1 with
          | true =>
            rw [if_pos h37] at hres
            rw [h37] at hR2
            simp only [if_true] at hR2
            have hlt := isT_lt hg h37
            go_wp2_with fail
            refine ((ih k (by omega)).un w2 b lv nv mv o toks (passT r1) nm hl hnl ho (by omega) hR2 hn3).mono ?_
            rintro e w3 ⟨hf5, hm5⟩
            have hf6 := hf4.call hf5 (fun _ _ x => x)
            have hn5 := hn3.no hf5
            have hN5 := hN2.fr hbw hf5
            cases hu : unS k nm o (passT r1) with
            | error ep =>
              rw [hu] at hm5 hres
              obtain ⟨c, p⟩ := ep
              simp only [Threw] at hm5
              subst hm5 hres
              go_wp2_with fail
              exact ⟨rfl, hf6, rfl⟩
            | ok ar =>
              rw [hu] at hm5 hres
              obtain ⟨a2, r2⟩ := ar
              obtain ⟨v2, rfl, hN6, hR6⟩ := hm5
              obtain ⟨ty2, vc2, rfl⟩ := hN6.form
              simp only at hres
              have hl2 := ((ex_len nm k).un hg.pass hu).2
              go_wp2_with fail
              go_roundg r2.length
              case measure => rw [HG.out]; omega
              case rel => exact ⟨k, .two 37 a a2, r2, _, _, rfl, rfl, hres, by omega, by omega, ⟨_, _, hN5, hN6.mono hf4.size, rfl⟩, hR6, hn5, hf6⟩
          | false =>
            rw [if_neg (by simp [h37])] at hres
            rw [h37] at hR2
            simp only [Bool.false_eq_true, if_false] at hR2
            have hR := hR2
            have hn2 := hn3
            have hN := hN2
            have hf2 := hf4
            clear hR2 hn3 hN2 hf4
            go_wp2_with fail
            go_ret
            subst hres
            exact ⟨hf2, _, rfl, hN, hR⟩
set_option maxRecDepth 100000 in
set_option maxHeartbeats 4000000 in
theorem sum_step {n : Nat} (ih : ∀ k, k ≤ n → ExpC k) (w : World) (b : Nat) (lv nv mv : Value) (o : Nat) (toks r : List Tok) (nm : List (List UInt8)) (hl : toks.length ≤ 5000) (hnl : nm.length ≤ 1000) (ho : o ≤ 16) (hm : 4 * r.length + 3 ≤ n + 1) (h : Rdr w b lv nv mv o toks r) (hn : NmAt w b nv nm) :
    Calls Tryz.prog 53 #[.pointer (some ⟨b, 0, none⟩)] w (ExOut w b lv nv mv o toks (sumS (n + 1) nm o r)) := by
  have hg := h.good
  have hbw := h.bl
  obtain ⟨res, hres⟩ : ∃ res, sumS (n + 1) nm o r = res := ⟨_, rfl⟩
  rw [hres]
  simp only [sumS] at hres
  go_enter Tryz.func53, Tryz.ntmps53
  go_wp2_with fail
  refine ((ih n (Nat.le_refl _)).pr w b lv nv mv o toks r nm hl hnl ho (by omega) h hn).mono ?_
  rintro e w1 ⟨hf1, hm1⟩
  have hn1 := hn.no hf1
  clear h hn
  cases hu : prodS n nm o r with
  | error ep =>
    rw [hu] at hm1 hres
    obtain ⟨c, p⟩ := ep
    simp only [Threw] at hm1
    subst hm1 hres
    go_wp2_with fail
    exact ⟨rfl, hf1, rfl⟩
  | ok ar =>
    rw [hu] at hm1 hres
    obtain ⟨a0, r0⟩ := ar
    obtain ⟨v0, rfl, hN0, hR0⟩ := hm1
    obtain ⟨ty0, vc0, rfl⟩ := hN0.form
    simp only at hres
    have hlt0 := ((ex_len nm n).pr hg hu).2
    go_wp2_with fail
    go_loopg [3] r0.length (fun gk x3 wr => ∃ (k : Nat) (a : Nd) (r1 : List Tok) (ty : TypeId) (vc : Array Value), gk = r1.length ∧ x3 = .iface ty (.agg vc) ∧ sumL k nm o a r1 = res ∧ k ≤ n ∧ 4 * r1.length + 3 ≤ k ∧ NdIs wr w.heap.size a (.iface ty (.agg vc)) ∧ Rdr wr b lv nv mv o toks r1 ∧ NmAt wr b nv nm ∧ Fr (· = b) w wr)
    case atStart => exact ⟨n, a0, r0, ty0, vc0, rfl, rfl, hres, Nat.le_refl _, by omega, hN0, hR0, hn1, hf1⟩
    case round =>
      clear hN0 hR0 hn1 hf1 hres hu hlt0 hm hg
      obtain ⟨k, a, r1, ty, vc, hgk, rfl, hres, hkn, hkm, hN, hR, hn2, hf2⟩ := hrel
      have hg := hR.good
      obtain ⟨k, rfl⟩ : ∃ k', k = k' + 1 := ⟨k - 1, by omega⟩
      simp only [sumL] at hres
      have HG := Lib.hid hgk
      clear hgk
      go_wp2_with fail
      refine (is_rdr (by omega) [43] hR).mono ?_
      rintro e w2 ⟨rfl, hR2, hf3⟩
      have hn3 := hn2.no hf3
      have hN2 := hN.fr hbw hf3
      have hf4 := hf2.call hf3 (fun _ _ x => x)
      clear hR hn2 hN hf2 hf3
      cases h43 : isT [43] r1 with
      | true =>
        rw [if_pos h43] at hres
        rw [h43] at hR2
        simp only [if_true] at hR2
        have hlt := isT_lt hg h43
        go_wp2_with fail
        refine ((ih k (by omega)).pr w2 b lv nv mv o toks (passT r1) nm hl hnl ho (by omega) hR2 hn3).mono ?_
        rintro e w3 ⟨hf5, hm5⟩
        have hf6 := hf4.call hf5 (fun _ _ x => x)
        have hn5 := hn3.no hf5
        have hN5 := hN2.fr hbw hf5
        cases hu : prodS k nm o (passT r1) with
        | error ep =>
          rw [hu] at hm5 hres
          obtain ⟨c, p⟩ := ep
          simp only [Threw] at hm5
          subst hm5 hres
          go_wp2_with fail
          exact ⟨rfl, hf6, rfl⟩
        | ok ar =>
          rw [hu] at hm5 hres
          obtain ⟨a2, r2⟩ := ar
          obtain ⟨v2, rfl, hN6, hR6⟩ := hm5
          obtain ⟨ty2, vc2, rfl⟩ := hN6.form
          simp only at hres
          have hl2 := ((ex_len nm k).pr hg.pass hu).2
          go_wp2_with fail
          go_roundg r2.length
          case measure => rw [HG.out]; omega
          case rel => exact ⟨k, .two 43 a a2, r2, _, _, rfl, rfl, hres, by omega, by omega, ⟨_, _, hN5, hN6.mono hf4.size, rfl⟩, hR6, hn5, hf6⟩
      | false =>
        rw [if_neg (by simp [h43])] at hres
        rw [h43] at hR2
        simp only [Bool.false_eq_true, if_false] at hR2
        have hR := hR2
        have hn2 := hn3
        have hN := hN2
        have hf2 := hf4
        clear hR2 hn3 hN2 hf4
        go_wp2_with fail
        refine (is_rdr (by omega) [45] hR).mono ?_
        rintro e w2 ⟨rfl, hR2, hf3⟩
        have hn3 := hn2.no hf3
        have hN2 := hN.fr hbw hf3
        have hf4 := hf2.call hf3 (fun _ _ x => x)
        clear hR hn2 hN hf2 hf3
        cases h45 : isT [45] r1 with
        | true =>
          rw [if_pos h45] at hres
          rw [h45] at hR2
          simp only [if_true] at hR2
          have hlt := isT_lt hg h45
          go_wp2_with fail
          refine ((ih k (by omega)).pr w2 b lv nv mv o toks (passT r1) nm hl hnl ho (by omega) hR2 hn3).mono ?_
          rintro e w3 ⟨hf5, hm5⟩
          have hf6 := hf4.call hf5 (fun _ _ x => x)
          have hn5 := hn3.no hf5
          have hN5 := hN2.fr hbw hf5
          cases hu : prodS k nm o (passT r1) with
          | error ep =>
            rw [hu] at hm5 hres
            obtain ⟨c, p⟩ := ep
            simp only [Threw] at hm5
            subst hm5 hres
            go_wp2_with fail
            exact ⟨rfl, hf6, rfl⟩
          | ok ar =>
            rw [hu] at hm5 hres
            obtain ⟨a2, r2⟩ := ar
            obtain ⟨v2, rfl, hN6, hR6⟩ := hm5
            obtain ⟨ty2, vc2, rfl⟩ := hN6.form
            simp only at hres
            have hl2 := ((ex_len nm k).pr hg.pass hu).2
            go_wp2_with fail
            go_roundg r2.length
            case measure => rw [HG.out]; omega
            case rel => exact ⟨k, .two 45 a a2, r2, _, _, rfl, rfl, hres, by omega, by omega, ⟨_, _, hN5, hN6.mono hf4.size, rfl⟩, hR6, hn5, hf6⟩
        | false =>
          rw [if_neg (by simp [h45])] at hres
          rw [h45] at hR2
          simp only [Bool.false_eq_true, if_false] at hR2
          have hR := hR2
          have hn2 := hn3
          have hN := hN2
          have hf2 := hf4
          clear hR2 hn3 hN2 hf4
          go_wp2_with fail
          go_ret
          subst hres
          exact ⟨hf2, _, rfl, hN, hR⟩

theorem exp_all : ∀ n, ∀ k, k ≤ n → ExpC k
  | 0, k, hk => by
    obtain rfl : k = 0 := by omega
    exact ⟨fun _ _ _ _ _ _ _ _ _ _ _ _ h => by omega, fun _ _ _ _ _ _ _ _ _ _ _ _ h => by omega, fun _ _ _ _ _ _ _ _ _ _ _ _ h => by omega⟩
  | n + 1, k, hk => by
    have ih := exp_all n
    by_cases e : k ≤ n
    · exact ih k e
    · obtain rfl : k = n + 1 := by omega
      exact ⟨fun w b lv nv mv o toks r nm hl hnl ho hm h hn => unary_step (ih n (Nat.le_refl _)) w b lv nv mv o toks r nm hl hnl ho hm h hn, fun w b lv nv mv o toks r nm hl hnl ho hm h hn => product_step ih w b lv nv mv o toks r nm hl hnl ho hm h hn, fun w b lv nv mv o toks r nm hl hnl ho hm h hn => sum_step ih w b lv nv mv o toks r nm hl hnl ho hm h hn⟩
theorem sum_rdr {w : World} {b : Nat} {lv nv mv : Value} {o : Nat} {toks r : List Tok} {nm : List (List UInt8)} {n : Nat} (hl : toks.length ≤ 5000) (hnl : nm.length ≤ 1000) (ho : o ≤ 16) (hm : 4 * r.length + 3 ≤ n) (h : Rdr w b lv nv mv o toks r) (hn : NmAt w b nv nm) :
    Calls Tryz.prog 53 #[.pointer (some ⟨b, 0, none⟩)] w (ExOut w b lv nv mv o toks (sumS n nm o r)) :=
  (exp_all n n (Nat.le_refl _)).su w b lv nv mv o toks r nm hl hnl ho hm h hn
end Go.Proofs.YtlklijpjacmgpaaGreatDoor
