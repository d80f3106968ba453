/- The reader's is, must, name, variable, into, out. -/
import Derived.Test.YtjmjdmmojgmcdaaDoorLA
namespace Go.Proofs.YtjmjdmmojgmcdaaDoor
open Go.RowKit
set_option linter.unusedVariables false
set_option linter.unusedSimpArgs false
attribute [local go_sem ↓] Go.wp_at_zero Go.wp_at_succ

set_option maxRecDepth 100000 in
set_option maxHeartbeats 1000000 in
theorem is_rdr {w : World} {b : Nat} {lv nv mv : Value} {o : Nat} {toks r : List Tok} (hl : toks.length ≤ 100000) (x : List UInt8) (h : Rdr w b lv nv mv o toks r) :
    Calls Tryd.prog 24 #[.pointer (some ⟨b, 0, none⟩), .string ⟨x.toArray⟩] w fun e w' => e = .returned (.bool (isT x r)) ∧ Rdr w' b lv nv mv o toks (if isT x r then passT r else r) ∧ Fr (· = b) w w' := by
  obtain ⟨r', hr'⟩ : ∃ r', (if isT x r then passT r else r) = r' := ⟨_, rfl⟩
  rw [hr']
  obtain ⟨R, hR⟩ : ∃ R, isT x r = R := ⟨_, rfl⟩
  rw [hR] at hr' ⊢
  obtain ⟨K, hK⟩ : ∃ K, (hereT r).kind = K := ⟨_, rfl⟩
  obtain ⟨T, hT⟩ : ∃ T, (hereT r).text = T := ⟨_, rfl⟩
  have hR2 := hR
  unfold isT at hR2
  rw [hK, hT] at hR2
  go_enter Tryd.func24, Tryd.ntmps24
  go_wp2_with fail
  refine (here_rdr h).mono ?_
  rintro e w1 ⟨rfl, h1, hf1⟩
  simp only [tokC]
  rw [hK, hT]
  have HR := Lib.hid (And.intro hR2 hr')
  clear hR hR2 hr' hK hT h
  by_cases hx : T = x
  · subst hx
    by_cases hk : K = 3
    · subst hk
      have e : R = true := by rw [← HR.out.1]; simp
      have er : passT r = r' := by rw [← HR.out.2, e]; rfl
      subst e
      go_wp2_with fail
      refine (pass_rdr hl (h1.no ((Fr.refl No w1).alloc _))).mono ?_
      rintro e w2 ⟨rfl, h2, hf2⟩
      go_wp2_with fail
      go_ret
      rw [← er]
      exact ⟨rfl, h2, ((Fr.ofNo hf1).alloc _).call hf2 (fun _ _ x => x)⟩
    · by_cases hk1 : K = 1
      · subst hk1
        clear hk
        have e : R = true := by rw [← HR.out.1]; simp
        have er : passT r = r' := by rw [← HR.out.2, e]; rfl
        subst e
        go_wp2_with fail
        refine (pass_rdr hl (h1.no ((Fr.refl No w1).alloc _))).mono ?_
        rintro e w2 ⟨rfl, h2, hf2⟩
        go_wp2_with fail
        go_ret
        rw [← er]
        exact ⟨rfl, h2, ((Fr.ofNo hf1).alloc _).call hf2 (fun _ _ x => x)⟩
      · have e : R = false := by rw [← HR.out.1]; simp [hk, hk1]
        have er : r = r' := by rw [← HR.out.2, e]; rfl
        have b1 : (K != 3) = true := by simpa using hk
        have b2 : (K != 1) = true := by simpa using hk1
        subst e
        subst er
        clear hk hk1
        go_wp2_with fail
        go_ret
        exact ⟨rfl, h1.no ((Fr.refl No w1).alloc _), (Fr.ofNo hf1).alloc _⟩
  · have hxe : (T == x) = false := by rw [beq_eq_false_iff_ne]; exact hx
    have e : R = false := by rw [← HR.out.1]; simp [hx]
    have er : r = r' := by rw [← HR.out.2, e]; rfl
    subst e
    subst er
    clear hx
    go_wp2_with fail
    go_ret
    exact ⟨rfl, h1.no ((Fr.refl No w1).alloc _), (Fr.ofNo hf1).alloc _⟩
theorem must_yes {w : World} {b : Nat} {lv nv mv : Value} {o : Nat} {toks r : List Tok} (hl : toks.length ≤ 100000) (x : List UInt8) (h : Rdr w b lv nv mv o toks r) (hx : isT x r = true) :
    Calls Tryd.prog 23 #[.pointer (some ⟨b, 0, none⟩), .string ⟨x.toArray⟩] w fun e w' => e = .returned (.tuple #[]) ∧ Rdr w' b lv nv mv o toks (passT r) ∧ Fr (· = b) w w' := by
  go_enter Tryd.func23, Tryd.ntmps23
  go_wp2_with fail
  refine (is_rdr hl x h).mono ?_
  rintro e w1 ⟨rfl, h1, hf1⟩
  rw [hx] at h1 ⊢
  go_wp2_with fail
  refine (need_true b _ _).mono ?_
  rintro e w2 ⟨rfl, rfl⟩
  go_wp2_with fail
  go_end0
  exact ⟨rfl, h1, hf1⟩
theorem must_no {w : World} {b : Nat} {lv nv mv : Value} {o : Nat} {toks r : List Tok} (hl : toks.length ≤ 100000) (x : List UInt8) (h : Rdr w b lv nv mv o toks r) (hx : isT x r = false) :
    Calls Tryd.prog 23 #[.pointer (some ⟨b, 0, none⟩), .string ⟨x.toArray⟩] w fun e w' => Threw 80 (hereT r).at_ e ∧ Fr (· = b) w w' := by
  go_enter Tryd.func23, Tryd.ntmps23
  go_wp2_with fail
  refine (is_rdr hl x h).mono ?_
  rintro e w1 ⟨rfl, h1, hf1⟩
  rw [hx] at h1 ⊢
  go_wp2_with fail
  refine (need_rdr h1 80).mono ?_
  rintro e w2 ⟨ht, hf2⟩
  unfold Threw at ht
  subst ht
  go_wp2_with fail
  exact ⟨rfl, rfl, hf1.callNo hf2⟩
end Go.Proofs.YtjmjdmmojgmcdaaDoor
