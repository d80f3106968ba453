/- LangLimits. -/
import Derived.Test.YtjmjdmmojgmcdaaDoorNE
namespace Go.Proofs.YtjmjdmmojgmcdaaDoor
open Go.RowKit
set_option linter.unusedVariables false
set_option linter.unusedSimpArgs false
attribute [local go_sem ↓] Go.wp_at_zero Go.wp_at_succ

theorem rep_snoc (s : List Nat) : ∀ n, rep s n ++ s = s ++ rep s n
  | 0 => by simp [rep]
  | n + 1 => by simp only [rep, List.append_assoc, rep_snoc s n]
theorem rep_succ (s : List Nat) (n : Nat) : rep s (n + 1) = rep s n ++ s := by rw [rep_snoc]; rfl
theorem asc_app (a b : List Nat) : ascT (a ++ b) = ascT a ++ ascT b := by simp [ascT]
/-- a string of ASCII codes -/
def asS (cs : List Nat) : ByteArray := ⟨(ascT cs).toArray⟩
theorem asS_app (a b : List Nat) : asS a ++ asS b = asS (a ++ b) := by unfold asS; rw [ba_append, asc_app]
theorem asS_list (cs : List Nat) : (asS cs).data.toList = ascT cs := rfl
theorem asS_size (cs : List Nat) : (asS cs).size = cs.length := by show (ascT cs).length = _; simp [ascT]
theorem parse_asc {w : World} (cs : List Nat) (hl : cs.length ≤ 100000) (hT : Tb w) (hg : goodF cs = true) : Calls Tryd.prog 8 #[.string (asS cs)] w (ParseOut w (parseF cs)) := by
  have h := parse_calls (w := w) (asS cs) (by rw [asS_size]; unfold maxLen; omega) hT
  rw [asS_list, parseF_eq hg] at h
  exact h
theorem lit_e8 : (⟨#[118, 97, 114, 115, 32, 97, 44, 32, 98, 44, 32, 99, 44, 32, 100, 44, 32, 101, 44, 32, 102, 44, 32, 103, 44, 32, 104]⟩ : ByteArray) = asS eightTx := by decide +kernel
theorem lit_e59 : (⟨#[59]⟩ : ByteArray) = asS [59] := by decide +kernel
theorem lit_eI : (⟨#[44, 32, 105, 59]⟩ : ByteArray) = asS [44, 32, 105, 59] := by decide +kernel
theorem lit_eH : (⟨#[118, 97, 114, 115, 32, 120, 59, 32]⟩ : ByteArray) = asS [118, 97, 114, 115, 32, 120, 59, 32] := by decide +kernel
theorem lit_eL : (⟨#[108, 111, 111, 112, 123]⟩ : ByteArray) = asS [108, 111, 111, 112, 123] := by decide +kernel
theorem lit_eR : (⟨#[125]⟩ : ByteArray) = asS [125] := by decide +kernel
theorem lit_eX : (⟨#[120, 58, 61]⟩ : ByteArray) = asS [120, 58, 61] := by decide +kernel
theorem lit_e1 : (⟨#[49]⟩ : ByteArray) = asS [49] := by decide +kernel
theorem lit_eO : (⟨#[40]⟩ : ByteArray) = asS [40] := by decide +kernel
theorem lit_eC : (⟨#[41]⟩ : ByteArray) = asS [41] := by decide +kernel
theorem lit_eCS : (⟨#[41, 59]⟩ : ByteArray) = asS [41, 59] := by decide +kernel
theorem lit_eE : (⟨#[]⟩ : ByteArray) = asS [] := by decide +kernel
theorem rep_len (s : List Nat) : ∀ n, (rep s n).length = s.length * n
  | 0 => rfl
  | n + 1 => by simp only [rep, List.length_append, rep_len s n]; rw [Nat.mul_succ]; omega
theorem asS_le {cs : List Nat} {n : Nat} (h : cs.length ≤ n) : (asS cs).size ≤ n := by rw [asS_size]; exact h
set_option maxRecDepth 100000 in
set_option maxHeartbeats 8000000 in
theorem langLimits_calls (k : Int) {w : World} (hT : Tb w) : Calls Tryd.prog 3 #[.int .i64 k] w fun e w' => e = .returned (.bool true) ∧ Fr No w w' := by
  obtain ⟨h8a, h8b, h8c, h8d⟩ := eight_reads
  have q1 := fun (W : World) (hT : Tb W) => parse_asc (w := W) (eightTx ++ [59]) (by decide) hT h8a
  have q2 := fun (W : World) (hT : Tb W) => parse_asc (w := W) (eightTx ++ [44, 32, 105, 59]) (by decide) hT h8c
  have HQ := Lib.hid (And.intro q1 (And.intro q2 (And.intro h8b h8d)))
  clear q1 q2 h8a h8b h8c h8d
  go_enter Tryd.func3, Tryd.ntmps3
  go_wp2_with fail
  refine (awake_calls hT).mono ?_
  rintro e w1 ⟨rfl, hf1⟩
  have hT1 := hT.no hf1
  go_wp2_with fail
  rw [lit_e8, lit_e59, asS_app]
  have e8s : (asS eightTx).size = 27 := by rw [asS_size]; rfl
  refine (HQ.out.1 _ hT1).mono ?_
  rintro e w2 ⟨hf2, hm2⟩
  obtain ⟨g8, hg8⟩ : ∃ g, parseF (eightTx ++ [59]) = .ok g := by
    have := HQ.out.2.2.1
    cases hp : parseF (eightTx ++ [59]) with
    | ok g => exact ⟨g, rfl⟩
    | error e => rw [hp] at this; simp [hasBegins] at this
  have h8n : g8.begins.length = 8 := by
    have := HQ.out.2.2.1
    rw [hg8] at this
    simpa [hasBegins] using this
  rw [hg8] at hm2
  obtain ⟨P, rfl, hPB, hPg⟩ := hm2
  have hF2 := hf1.callNo hf2
  have hT2 := hT1.no hf2
  clear hf1 hf2 hT1 hPB
  unfold plA
  have hal2 := (Fr.refl No w2).alloc (plaO zeroPl)
  have hT3 := hT2.no hal2
  have hPg3 := hPg.fr hal2
  have hF3 := hF2.callNo hal2
  clear hT2 hPg hF2 hal2
  go_wp2_with fail
  rw [lit_eI, asS_app]
  refine (HQ.out.2.1 _ hT3).mono ?_
  rintro e w3 ⟨hf4, hm4⟩
  obtain ⟨pe, hpe, hpb⟩ := isErr_ex HQ.out.2.2.2
  rw [hpe] at hm4
  simp only at hm4
  subst hm4
  have hPg4 := hPg3.fr hf4
  have hT4 := hT3.no hf4
  have hF4 := hF3.callNo hf4
  clear hT3 hPg3 hF3 hf4 hpe
  obtain ⟨pb, pg, pl, pc⟩ := pe
  simp only at hpb
  subst hpb
  unfold plA
  go_wp2_with fail
  have hal4 := (Fr.refl No w3).alloc (.cells #[.int .i64 29, .int .i64 pg, .int .i64 pl, .int .i64 pc] 26 (0, 0))
  have hN4 := Blk.new w3 (.cells #[.int .i64 29, .int .i64 pg, .int .i64 pl, .int .i64 pc] 26 (0, 0))
  refine (Vars_calls (hPg4.fr hal4) (by omega)).mono ?_
  rintro e w4 ⟨av, cv, rfl, _, hf5⟩
  have hT5 := (hT4.no hal4).no hf5
  have hF5 := (hF4.callNo hal4).callNo hf5
  have hN5 := hN4.fr hf5 (fun x => x)
  have R9 := Blk.all hN5
  rw [h8n]
  obtain ⟨m, hm, hm2⟩ := and_mask k
  clear hPg4 hT4 hF4 hf5 hal4 hN4 hN5 h8n
  go_wp2_with fail
  obtain ⟨b, hb⟩ : ∃ b : Nat, m % 17 = b := ⟨_, rfl⟩
  have hb17 : b < 17 := by omega
  rw [show ((m : Int) % 17) = (b : Int) by omega, lit_eH, lit_eE]
  have hL := lim_reads ⟨b, hb17⟩
  simp only at hL
  have l1 := fun (W : World) (hT : Tb W) => parse_asc (w := W) (limOk b) (by unfold limOk limTx; simp only [List.length_append, rep_len, List.length_cons, List.length_nil]; omega) hT hL.1
  have l2 := fun (W : World) (hT : Tb W) => parse_asc (w := W) (limBad b) (by unfold limBad limTx; simp only [List.length_append, rep_len, List.length_cons, List.length_nil]; omega) hT hL.2.2.1
  have HL := Lib.hid (And.intro l1 (And.intro l2 (And.intro hL.2.1 hL.2.2.2)))
  clear hm hm2 hb l1 l2 hL R9 e8s
  go_loopg [13, 11, 12] b (fun gk x13 x11 x12 wr => wr = w4 ∧ ∃ i : Nat, gk = b - i ∧ i ≤ b ∧ x13 = .int .i64 i ∧ x11 = .string (asS ([118, 97, 114, 115, 32, 120, 59, 32] ++ rep [108, 111, 111, 112, 123] i)) ∧ x12 = .string (asS (rep [125] i)))
  case atStart => exact ⟨rfl, 0, rfl, Nat.zero_le _, rfl, rfl, rfl⟩
  case round =>
    obtain ⟨rfl, i, hgk, hi, rfl, rfl, rfl⟩ := hrel
    have HG := Lib.hid hgk
    clear hgk
    have hz1 : (asS ([118, 97, 114, 115, 32, 120, 59, 32] ++ rep [108, 111, 111, 112, 123] i)).size ≤ 1000 := asS_le (by simp only [List.length_append, rep_len, List.length_cons, List.length_nil]; omega)
    have hz2 : (asS (rep [125] i)).size ≤ 1000 := asS_le (by simp only [List.length_append, rep_len, List.length_cons, List.length_nil]; omega)
    have HS1 := rep_succ [108, 111, 111, 112, 123] i
    have HS := Lib.hid HS1
    clear HS1
    by_cases hlt : i < b
    · obtain ⟨S1, hS1⟩ : ∃ S1, asS ([118, 97, 114, 115, 32, 120, 59, 32] ++ rep [108, 111, 111, 112, 123] i) = S1 := ⟨_, rfl⟩
      obtain ⟨S2, hS2⟩ : ∃ S2, asS (rep [125] i) = S2 := ⟨_, rfl⟩
      rw [hS1] at hz1 ⊢
      rw [hS2] at hz2 ⊢
      have HSS := Lib.hid (And.intro hS1 hS2)
      clear hS1 hS2
      go_wp2_with fail
      go_roundg (b - (i + 1))
      case measure => rw [HG.out]; omega
      case rel =>
        refine ⟨rfl, i + 1, rfl, by omega, by go_num, ?_, ?_⟩
        · rw [HS.out, ← HSS.out.1, lit_eL, asS_app, List.append_assoc]
        · rw [← HSS.out.2, lit_eR, asS_app]; rfl
    · obtain rfl : i = b := by omega
      have i2 : ¬ ((i : Int) < (i : Int)) := by omega
      clear HG HS
      obtain ⟨S1, hS1⟩ : ∃ S1, asS ([118, 97, 114, 115, 32, 120, 59, 32] ++ rep [108, 111, 111, 112, 123] i) = S1 := ⟨_, rfl⟩
      obtain ⟨S2, hS2⟩ : ∃ S2, asS (rep [125] i) = S2 := ⟨_, rfl⟩
      rw [hS1] at hz1 ⊢
      rw [hS2] at hz2 ⊢
      have HSS := Lib.hid (And.intro hS1 hS2)
      clear hS1 hS2
      go_wp2_with fail
      rw [← HSS.out.1, lit_eX, asS_app, lit_e1]
      go_loopg [15, 11, 14] (16 - i) (fun gk x15 x11 x14 wr' => wr' = wr ∧ ∃ q : Nat, gk = 16 - q ∧ i ≤ q ∧ q ≤ 16 ∧ x15 = .int .i64 q ∧ x11 = .string (asS ([118, 97, 114, 115, 32, 120, 59, 32] ++ rep [108, 111, 111, 112, 123] i ++ [120, 58, 61] ++ rep [40] (q - i))) ∧ x14 = .string (asS ([49] ++ rep [41] (q - i))))
      case atStart => exact ⟨rfl, i, rfl, Nat.le_refl _, by omega, rfl, by simp [rep], by simp [rep]⟩
      case round =>
        obtain ⟨rfl, q, hgk, hiq, hq, rfl, rfl, rfl⟩ := hrel
        have HG := Lib.hid hgk
        clear hgk
        have hy1 : (asS ([118, 97, 114, 115, 32, 120, 59, 32] ++ rep [108, 111, 111, 112, 123] i ++ [120, 58, 61] ++ rep [40] (q - i))).size ≤ 1000 := asS_le (by simp only [List.length_append, rep_len, List.length_cons, List.length_nil]; omega)
        have hy2 : (asS ([49] ++ rep [41] (q - i))).size ≤ 1000 := asS_le (by simp only [List.length_append, rep_len, List.length_cons, List.length_nil]; omega)
        by_cases hlq : q < 16
        · have hr1 := rep_succ [40] (q - i)
          have hr2 := rep_succ [41] (q - i)
          rw [show q - i + 1 = q + 1 - i by omega] at hr1 hr2
          have HR := Lib.hid (And.intro hr1 hr2)
          clear hr1 hr2
          obtain ⟨S3, hS3⟩ : ∃ S3, asS ([118, 97, 114, 115, 32, 120, 59, 32] ++ rep [108, 111, 111, 112, 123] i ++ [120, 58, 61] ++ rep [40] (q - i)) = S3 := ⟨_, rfl⟩
          obtain ⟨S4, hS4⟩ : ∃ S4, asS ([49] ++ rep [41] (q - i)) = S4 := ⟨_, rfl⟩
          rw [hS3] at hy1 ⊢
          rw [hS4] at hy2 ⊢
          have HSQ := Lib.hid (And.intro hS3 hS4)
          clear hS3 hS4
          go_wp2_with fail
          go_roundg (16 - (q + 1))
          case measure => rw [HG.out]; omega
          case rel =>
            refine ⟨rfl, q + 1, rfl, by omega, by omega, by go_num, ?_, ?_⟩
            · rw [HR.out.1, ← HSQ.out.1, lit_eO, asS_app, List.append_assoc _ (rep [40] (q - i))]
            · rw [HR.out.2, ← HSQ.out.2, lit_eC, asS_app, List.append_assoc [49]]
        · obtain rfl : q = 16 := by omega
          have hlt0 : decide ((16 : Int) < 16) = false := by decide
          have hlen : (asS ([118, 97, 114, 115, 32, 120, 59, 32] ++ rep [108, 111, 111, 112, 123] i ++ [120, 58, 61] ++ rep [40] (16 - i))).size = (limTx i).length := asS_size _
          have hL1 : (limTx i).length ≤ 1000 := by rw [← hlen]; exact hy1
          have hok : asS ([118, 97, 114, 115, 32, 120, 59, 32] ++ rep [108, 111, 111, 112, 123] i ++ [120, 58, 61] ++ rep [40] (16 - i)) ++ asS ([49] ++ rep [41] (16 - i)) ++ (⟨#[59]⟩ : ByteArray) ++ asS (rep [125] i) = asS (limOk i) := by rw [lit_e59, asS_app, asS_app, asS_app]; rfl
          have hbd : asS ([118, 97, 114, 115, 32, 120, 59, 32] ++ rep [108, 111, 111, 112, 123] i ++ [120, 58, 61] ++ rep [40] (16 - i)) ++ (⟨#[40]⟩ : ByteArray) ++ asS ([49] ++ rep [41] (16 - i)) ++ (⟨#[41, 59]⟩ : ByteArray) ++ asS (rep [125] i) = asS (limBad i) := by rw [lit_eO, lit_eCS, asS_app, asS_app, asS_app, asS_app]; rfl
          obtain ⟨LN, hLN⟩ : ∃ LN, (limTx i).length = LN := ⟨_, rfl⟩
          rw [hLN] at hlen hL1
          rw [HSS.out.2] at hok hbd
          obtain ⟨S5, hS5⟩ : ∃ S5, asS ([118, 97, 114, 115, 32, 120, 59, 32] ++ rep [108, 111, 111, 112, 123] i ++ [120, 58, 61] ++ rep [40] (16 - i)) = S5 := ⟨_, rfl⟩
          obtain ⟨S6, hS6⟩ : ∃ S6, asS ([49] ++ rep [41] (16 - i)) = S6 := ⟨_, rfl⟩
          rw [hS5] at hy1 hlen hok hbd ⊢
          rw [hS6] at hy2 hok hbd ⊢
          have HE := Lib.hid (And.intro hLN (And.intro hok hbd))
          clear hLN hS5 hS6 hok hbd HG HSS hy1
          go_wp2_with fail
          rw [HE.out.2.1]
          refine (HL.out.1 _ hT5).mono ?_
          rintro e w6 ⟨hf6, hm6⟩
          obtain ⟨g6, hg6⟩ := isOk_ex HL.out.2.2.1
          rw [hg6] at hm6
          obtain ⟨P6, rfl, _, _⟩ := hm6
          have hT6 := hT5.no hf6
          have hF6 := hF5.callNo hf6
          have hal6 := (Fr.refl No w6).alloc (plaO zeroPl)
          have hT7 := hT6.no hal6
          have hF7 := hF6.callNo hal6
          clear hT6 hF6 hf6 hT5 hF5
          unfold plA
          go_wp2_with fail
          rw [HE.out.2.2]
          refine (HL.out.2.1 _ hT7).mono ?_
          rintro e w8 ⟨hf8, hm8⟩
          obtain ⟨p8, hp8, hpb⟩ := isErr_ex HL.out.2.2.2
          rw [HE.out.1] at hpb
          rw [hp8] at hm8
          simp only at hm8
          subst hm8
          have hF8 := hF7.callNo hf8
          obtain ⟨pb8, pg8, pl8, pc8⟩ := p8
          simp only at hpb
          subst hpb
          clear hp8 hT7 hF7 hal6 hf8
          unfold plA
          go_wp2_with fail
          go_ret
          exact ⟨rfl, hF8.alloc _⟩
end Go.Proofs.YtjmjdmmojgmcdaaDoor
