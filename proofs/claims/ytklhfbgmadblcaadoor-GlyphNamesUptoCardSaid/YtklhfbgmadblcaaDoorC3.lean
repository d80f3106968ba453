/- The program's scanner: blanks, while. -/
import Derived.Test.YtklhfbgmadblcaaDoorC2
namespace Go.Proofs.YtklhfbgmadblcaaDoor
open Go.RowKit
set_option linter.unusedVariables false
set_option linter.unusedSimpArgs false

theorem fz_fz (t : List UInt8) (p : Pl) (c : Int) (b : Pl) : fz t p (fz t p c b).1 (fz t p c b).2 = fz t p c b := by
  unfold fz
  by_cases ht : t = []
  · simp [ht]
  · by_cases hc : c = 0
    · simp [ht, hc]
    · simp [ht, hc]

/-- the error behind blanks: none where a code point stands -/
def bk (l : List Nat) (t : List UInt8) (p : Pl) : Int × Pl := if l = [] then fz t p 0 zeroPl else (0, zeroPl)

/-- the scanner stands ahead of rest; no error yet, but for what stands behind all -/
def Stands (w : World) (b : Nat) (rest : List Nat) (t : List UInt8) (p : Pl) : Prop := ∃ C B, Sc w b rest t p C B ∧ (rest ≠ [] → C = 0 ∧ B = zeroPl) ∧ fz t p C B = fz t p 0 zeroPl

theorem Stands.begin {w : World} {b : Nat} {rest : List Nat} {t : List UInt8} {p : Pl} (h : Sc w b rest t p 0 zeroPl) : Stands w b rest t p := ⟨0, zeroPl, h, fun _ => ⟨rfl, rfl⟩, rfl⟩
theorem Stands.no {w w' : World} {b : Nat} {rest : List Nat} {t : List UInt8} {p : Pl} (h : Stands w b rest t p) (f : Fr No w w') : Stands w' b rest t p := by
  obtain ⟨C, B, h1, h2, h3⟩ := h
  exact ⟨C, B, h1.no f, h2, h3⟩
theorem Stands.some {w : World} {b c : Nat} {r : List Nat} {t : List UInt8} {p : Pl} (h : Stands w b (c :: r) t p) : Sc w b (c :: r) t p 0 zeroPl := by
  obtain ⟨C, B, h1, h2, h3⟩ := h
  obtain ⟨rfl, rfl⟩ := h2 (by simp)
  exact h1
theorem Stands.ne {w : World} {b : Nat} {rest : List Nat} {t : List UInt8} {p : Pl} (h : Stands w b rest t p) (hT : Tb w) : ¬ (0 = b) ∧ ¬ (1 = b) := by
  obtain ⟨C, B, h1, h2, h3⟩ := h
  exact hT.sc h1

theorem class_none' {t : List UInt8} (h : dec t = none) {w : World} {b : Nat} {p : Pl} (hb : Stands w b [] t p) (hT : Tb w) :
    Calls Tryd.prog 55 #[ptrV b] w fun e w' => e = .returned (.int .i64 (-1)) ∧ Sc w' b [] t p (fz t p 0 zeroPl).1 (fz t p 0 zeroPl).2 ∧ Fr (· = b) w w' := by
  obtain ⟨C, B, h1, h2, h3⟩ := hb
  rw [← h3]
  exact class_none h h1 hT
theorem next_none' {t : List UInt8} (h : dec t = none) {w : World} {b : Nat} {p : Pl} (hb : Stands w b [] t p) (hT : Tb w) :
    Calls Tryd.prog 57 #[ptrV b] w fun e w' => e = .returned (.int .i64 (-1)) ∧ Sc w' b [] t p (fz t p 0 zeroPl).1 (fz t p 0 zeroPl).2 ∧ Fr (· = b) w w' := by
  obtain ⟨C, B, h1, h2, h3⟩ := hb
  rw [← h3]
  exact next_none h h1 hT
theorem Stands.fz {w : World} {b : Nat} {t : List UInt8} {p : Pl} (h : Sc w b [] t p (fz t p 0 zeroPl).1 (fz t p 0 zeroPl).2) : Stands w b [] t p :=
  ⟨_, _, h, fun h => absurd rfl h, fz_fz t p 0 zeroPl⟩

/-- what next tells -/
def hd (l : List Nat) : Int := match l with
  | [] => -1
  | c :: _ => c

theorem next_at {S : ByteArray} {pre rest : List Nat} {t : List UInt8} (T : Txt S.data.toList (pre ++ rest) t) {w : World} {b : Nat} {p : Pl} (hb : Stands w b rest t p) (hT : Tb w) :
    Calls Tryd.prog 57 #[ptrV b] w fun e w' => e = .returned (.int .i64 (hd rest)) ∧ Stands w' b rest t p ∧ Fr (· = b) w w' := by
  cases rest with
  | nil => exact (next_none' T.stop hb hT).mono fun e w' ⟨h1, h2, h3⟩ => ⟨h1, .fz h2, h3⟩
  | cons c r => exact (next_some (T.ok c (by simp)) hb.some hT).mono fun e w' ⟨h1, h2⟩ => ⟨h1, hb.no h2, h2.mono (fun _ _ x => x.elim)⟩

theorem pass_at {S : ByteArray} {pre r : List Nat} {c : Nat} {t : List UInt8} (T : Txt S.data.toList (pre ++ c :: r) t) (hS : S.size ≤ 4096) {w : World} {b : Nat} (hb : Stands w b (c :: r) t (along start pre)) (hT : Tb w) :
    Calls Tryd.prog 56 #[ptrV b] w fun e w' => e = .returned (.tuple #[]) ∧ Sc w' b r t (along start (pre ++ [c])) 0 zeroPl ∧ Fr (· = b) w w' := by
  have h := pass_calls (T.ok c (by simp)) (fits_pre T hS) (tx_size T hS) hb.some hT
  rw [along_append]
  exact h

theorem skip_nl {c : Nat} {r : List Nat} (h : cls c = 1) : skipC false (c :: r) = skipC false r := by
  by_cases h10 : c = 10
  · simp [skipC, h10]
  · simp [skipC, h10, h]
theorem skip_hash {c : Nat} {r : List Nat} (h : cls c = 6) : skipC false (c :: r) = skipC true (c :: r) := by
  have h10 : c ≠ 10 := by rintro rfl; revert h; decide
  simp [skipC, h10, h]
theorem skip_comment {c : Nat} {r : List Nat} (h : c ≠ 10) : skipC true (c :: r) = skipC true r := by
  simp [skipC, h]
theorem skip_line {r : List Nat} : skipC true (10 :: r) = skipC false (10 :: r) := by simp [skipC]
theorem skip_stop {c : Nat} {r : List Nat} (h1 : cls c ≠ 1) (h6 : cls c ≠ 6) : skipC false (c :: r) = c :: r := by
  have h10 : c ≠ 10 := by rintro rfl; revert h1; decide
  simp [skipC, h10, h1, h6]
theorem skipped_is {cs mid : List Nat} (h : cs = mid ++ skipC false cs) : skipped cs = mid := by
  have h2 := skipped_append cs
  exact List.append_cancel_right (h2.trans h)

set_option maxHeartbeats 2000000 in
theorem blanks_calls {S : ByteArray} {pre cs : List Nat} {t : List UInt8} (T : Txt S.data.toList (pre ++ cs) t) (hS : S.size ≤ 4096) {w : World} {b : Nat} (hb : Sc w b cs t (along start pre) 0 zeroPl) (hT : Tb w) :
    Calls Tryd.prog 39 #[ptrV b] w fun e w' => e = .returned (.tuple #[]) ∧ Sc w' b (skipC false cs) t (along start (pre ++ skipped cs)) (bk (skipC false cs) t (along start (pre ++ skipped cs))).1 (bk (skipC false cs) t (along start (pre ++ skipped cs))).2 ∧ Fr (· = b) w w' := by
  obtain ⟨hn0, hn1⟩ := hT.sc hb
  go_enter Tryd.func39, Tryd.ntmps39
  go_wp2_with fail
  go_loopg [2] cs.length (fun gk x2 wr => ∃ mid rest, cs = mid ++ rest ∧ gk = rest.length ∧ skipC false cs = skipC false rest ∧ Stands wr b rest t (along start (pre ++ mid)) ∧ Fr (· = b) w wr)
  case atStart => exact ⟨[], cs, rfl, rfl, rfl, by simpa using Stands.begin hb, Fr.refl _ _⟩
  case round =>
    obtain ⟨mid, rest, h1, h2, h3, hst, hf⟩ := hrel
    have T1 : Txt S.data.toList ((pre ++ mid) ++ rest) t := by rw [List.append_assoc, ← h1]; exact T
    have hTr := hT.fr hf hn0 hn1
    have A := Lib.hid (And.intro h1 (And.intro h2 h3))
    clear h1 h2 h3
    cases rest with
    | nil =>
      go_wp2_with fail
      refine (class_none' T1.stop hst hTr).mono ?_
      rintro e w1 ⟨rfl, hs1, hf1⟩
      go_wp2_with fail
      refine bodyPost_ret (results_none rfl _ _ _) rfl ?_
      obtain ⟨h1, h2, h3⟩ := A.out
      have h4 : skipC false cs = [] := by rw [h3]; rfl
      have h5 : skipped cs = mid := skipped_is (by rw [h4]; exact h1)
      rw [h4, h5]
      exact ⟨rfl, hs1, hf.call hf1 (fun _ _ x => x)⟩
    | cons c r =>
      go_wp2_with fail
      refine (class_some (T1.ok c (by simp)) hst.some hTr).mono ?_
      rintro e w1 ⟨rfl, hf1⟩
      have hst1 := hst.no hf1
      have hf2 := hf.callNo hf1
      have hT1 := hTr.no hf1
      clear hst hf hf1 hTr
      by_cases k1 : cls c = 1
      · have k1b : (cls c == 1) = true := by simpa using k1
        have K := Lib.hid k1
        clear k1
        go_wp2_with fail
        refine (pass_at T1 hS hst1 hT1).mono ?_
        rintro e w2 ⟨rfl, hs2, hf3⟩
        go_wp2_with fail
        obtain ⟨h1, h2, h3⟩ := A.out
        go_roundg r.length
        case measure => rw [h2]; simp
        case rel => exact ⟨mid ++ [c], r, by rw [h1]; simp, rfl, by rw [h3, skip_nl K.out], by rw [← List.append_assoc]; exact .begin hs2, hf2.call hf3 (fun _ _ x => x)⟩
      · have k1b : (cls c == 1) = false := by simpa using k1
        by_cases k6 : cls c = 6
        · have k6b : (cls c == 6) = true := by simpa using k6
          have K := Lib.hid k6
          clear k1 k6
          go_wp2_with fail
          refine (next_at T1 hst1 hT1).mono ?_
          rintro e w2 ⟨rfl, hst2, hf3⟩
          have hf4 := hf2.call hf3 (fun _ _ x => x)
          clear hst1 hf2 hf3 hT1
          go_wp2_with fail
          go_loopg [2] (r.length + 1) (fun gk2 x2 wr2 => ∃ mid2 rest2, cs = mid2 ++ rest2 ∧ gk2 = rest2.length ∧ x2 = .int .i64 (hd rest2) ∧ skipC false cs = skipC true rest2 ∧ (rest2 = c :: r ∨ rest2.length ≤ r.length) ∧ Stands wr2 b rest2 t (along start (pre ++ mid2)) ∧ Fr (· = b) w wr2)
          case atStart =>
            obtain ⟨h1, h2, h3⟩ := A.out
            exact ⟨mid, c :: r, h1, by simp, rfl, by rw [h3, skip_hash K.out], Or.inl rfl, hst2, hf4⟩
          case round =>
            obtain ⟨mid2, rest2, h1, h2, rfl, h3, h4, hst, hf⟩ := hrel
            have T2 : Txt S.data.toList ((pre ++ mid2) ++ rest2) t := by rw [List.append_assoc, ← h1]; exact T
            have hTr := hT.fr hf hn0 hn1
            have A2 := Lib.hid (And.intro h1 (And.intro h2 (And.intro h3 h4)))
            clear h1 h2 h3 h4
            cases rest2 with
            | nil =>
              have z1 : decide ((0 : Int) ≤ hd []) = false := rfl
              go_wp2_with fail
              go_roundg 0
              case measure => obtain ⟨h1, h2, h3⟩ := A.out; rw [h2]; simp
              case rel =>
                obtain ⟨h1, h2, h3, h4⟩ := A2.out
                exact ⟨mid2, [], h1, rfl, by rw [h3]; rfl, hst, hf⟩
            | cons d r2 =>
              have z1 : decide ((0 : Int) ≤ hd (d :: r2)) = true := by simp [hd]
              by_cases k10 : d = 10
              · have z2 : (hd (d :: r2) != 10) = false := by simp [hd, k10]
                have K10 := Lib.hid k10
                clear k10
                go_wp2_with fail
                go_roundg (r2.length + 1)
                case measure =>
                  obtain ⟨h1, h2, h3⟩ := A.out
                  obtain ⟨_, _, _, h4⟩ := A2.out
                  rw [h2]
                  rcases h4 with h4 | h4
                  · cases h4
                    have := K.out
                    rw [K10.out] at this
                    exact absurd this (by decide)
                  · simp at h4 ⊢; omega
                case rel =>
                  obtain ⟨h1, h2, h3, h4⟩ := A2.out
                  exact ⟨mid2, d :: r2, h1, by simp, by rw [h3, K10.out, skip_line], hst, hf⟩
              · have z2 : (hd (d :: r2) != 10) = true := by simp [hd]; omega
                have K10 := Lib.hid k10
                clear k10
                go_wp2_with fail
                refine (pass_at T2 hS hst hTr).mono ?_
                rintro e w3 ⟨rfl, hs3, hf3⟩
                have hf5 := hf.call hf3 (fun _ _ x => x)
                have T3 : Txt S.data.toList ((pre ++ mid2 ++ [d]) ++ r2) t := by simpa using T2
                have hT3 := hT.fr hf5 hn0 hn1
                clear hf hf3 hst hTr
                go_wp2_with fail
                refine (next_at T3 (.begin hs3) hT3).mono ?_
                rintro e w4 ⟨rfl, hst4, hf6⟩
                go_wp2_with fail
                obtain ⟨h1, h2, h3, h4⟩ := A2.out
                go_roundg r2.length
                case measure => rw [h2]; simp
                case rel =>
                  refine ⟨mid2 ++ [d], r2, by rw [h1]; simp, rfl, rfl, by rw [h3, skip_comment K10.out], Or.inr ?_, by rw [← List.append_assoc]; exact hst4, hf5.call hf6 (fun _ _ x => x)⟩
                  rcases h4 with h4 | h4
                  · cases h4; exact Nat.le_refl _
                  · simp at h4; omega
        · have k6b : (cls c == 6) = false := by simpa using k6
          have K := Lib.hid (And.intro k1 k6)
          clear k1 k6
          go_wp2_with fail
          refine bodyPost_ret (results_none rfl _ _ _) rfl ?_
          obtain ⟨h1, h2, h3⟩ := A.out
          have h4 : skipC false cs = c :: r := by rw [h3]; exact skip_stop K.out.1 K.out.2
          have h5 : skipped cs = mid := skipped_is (by rw [h4]; exact h1)
          rw [h4, h5]
          exact ⟨rfl, hst1.some, hf2⟩
end Go.Proofs.YtklhfbgmadblcaaDoor
