/- The reference's reader: spaces, part. -/
import Derived.Test.YtklhfbgmadblcaaDoorA4
import Derived.Deep.LoopGhost
namespace Go.Proofs.YtklhfbgmadblcaaDoor
open Go.RowKit
set_option linter.unusedVariables false
set_option linter.unusedSimpArgs false

/-- what is looked at: the code ahead; -1 at the end; -2 at bytes that are none -/
def lk (brk : Bool) : List Nat → Int
  | c :: _ => c
  | [] => if brk then -2 else -1

theorem drop_pre {l : List UInt8} {pre cs : List Nat} {t : List UInt8} (T : Txt l (pre ++ cs) t) : Txt (l.drop (along start pre).b) cs t := by
  refine ⟨?_, fun c hc => T.ok c (List.mem_append_right _ hc), T.stop⟩
  rw [T.eq, along_b]
  show List.drop (0 + _) _ = _
  simp

theorem look_at {S : ByteArray} {pre cs : List Nat} {t : List UInt8} (T : Txt S.data.toList (pre ++ cs) t) : lookV S (along start pre).b = lk (!t.isEmpty) cs := by
  have D := drop_pre T
  have hl := T.len
  have hb := along_b start pre
  have hs : start.b = 0 := rfl
  simp only [List.flatMap_append, List.length_append, ← Lib.size_eq] at hl
  cases cs with
  | nil =>
    cases t with
    | nil =>
      simp only [List.flatMap_nil, List.length_nil] at hl
      unfold lookV
      rw [if_pos (by omega)]; rfl
    | cons x t =>
      simp only [List.flatMap_nil, List.length_nil, List.length_cons] at hl
      unfold lookV
      rw [if_neg (by omega), D.dec_nil.1]; rfl
  | cons c cs =>
    have := enc_pos c
    simp only [List.flatMap_cons, List.length_append] at hl
    unfold lookV
    rw [if_neg (by omega), D.dec_cons.1]; rfl

/-- the reader stands behind pre -/
def Rd (w : World) (b : Nat) (S : ByteArray) (pre : List Nat) : Prop := Blk w b (rdO S (along start pre))

theorem fits_pre {S : ByteArray} {pre cs : List Nat} {t : List UInt8} (T : Txt S.data.toList (pre ++ cs) t) (hS : S.size ≤ 4096) : (along start pre).fits 4096 := by
  obtain ⟨h1, h2, h3, h4⟩ := along_fits T
  rw [← Lib.size_eq] at h1 h2 h3 h4
  exact ⟨by omega, by omega, by omega, by omega⟩

theorem Look_at {S : ByteArray} {pre cs : List Nat} {t : List UInt8} (T : Txt S.data.toList (pre ++ cs) t) (hS : S.size ≤ 4096) {w : World} {b : Nat} (hb : Rd w b S pre) :
    Calls Tryd.prog 42 #[ptrV b] w fun e w' => e = .returned (.int .i64 (lk (!t.isEmpty) cs)) ∧ Qd w w' := by
  rw [← look_at T]; exact Look_calls b S _ w hS hb

theorem Look_is {S : ByteArray} {pre cs : List Nat} {t : List UInt8} (T : Txt S.data.toList (pre ++ cs) t) (hS : S.size ≤ 4096) {w : World} {b : Nat} (hb : Rd w b S pre) {v : Int} (hv : lk (!t.isEmpty) cs = v) :
    Calls Tryd.prog 42 #[ptrV b] w fun e w' => e = .returned (.int .i64 v) ∧ Qd w w' := hv ▸ Look_at T hS hb

theorem Next_at {S : ByteArray} {pre cs : List Nat} {c : Nat} {t : List UInt8} (T : Txt S.data.toList (pre ++ c :: cs) t) (hS : S.size ≤ 4096) {w : World} {b : Nat} (hb : Rd w b S pre) :
    Calls Tryd.prog 43 #[ptrV b] w fun e w' => e = .returned (.tuple #[]) ∧ Rd w' b S (pre ++ [c]) ∧ Fr (· = b) w w' := by
  have D := drop_pre T
  have hl := T.len
  have hbb := along_b start pre
  have hs : start.b = 0 := rfl
  have := enc_pos c
  simp only [List.flatMap_append, List.length_append, List.flatMap_cons, ← Lib.size_eq] at hl
  refine (Next_calls b S _ c _ w hS (fits_pre T hS) (by omega) D.dec_cons.1 hb).mono ?_
  rintro e w' ⟨h1, h2, h3⟩
  refine ⟨h1, ?_, h3⟩
  unfold Rd
  rw [along_append]
  exact h2

theorem lk_lt {brk : Bool} {cs : List Nat} {t : List UInt8} {l : List UInt8} (T : Txt l cs t) : -2 ≤ lk brk cs ∧ lk brk cs ≤ 1114111 := by
  cases cs with
  | nil => cases brk <;> simp [lk]
  | cons c cs =>
    have := T.ok c (List.mem_cons_self ..)
    rw [okc_iff] at this
    simp only [lk]; omega

theorem Rd.qd {w w' : World} {b : Nat} {S : ByteArray} {pre : List Nat} (h : Rd w b S pre) (q : Qd w w') : Rd w' b S pre := q.blk h

theorem skipC_nil (cm : Bool) : skipC cm [] = [] := rfl
theorem skip_all {mid rest cs : List Nat} (h : cs = mid ++ rest) (h2 : rest = skipC false cs) : skipped cs = mid := by
  have := skipped_append cs
  rw [← h2] at this
  rw [h] at this ⊢
  exact List.append_cancel_right this

/-- the error behind blanks -/
def spErr (brk : Bool) (rest : List Nat) : Int := match rest with
  | [] => if brk then 40 else 0
  | _ => 0

theorem cls10 : cls 10 = 1 := by decide
theorem cls35 (c : Nat) (h : cls c = 6) : c ≠ 10 := by rintro rfl; revert h; decide


set_option maxHeartbeats 2000000 in
theorem spaces_calls {S : ByteArray} {pre cs : List Nat} {t : List UInt8} (T : Txt S.data.toList (pre ++ cs) t) (hS : S.size ≤ 4096) {w : World} {b : Nat} (hb : Rd w b S pre) :
    Calls Tryd.prog 36 #[ptrV b] w fun e w' => e = .returned (.int .i64 (spErr (!t.isEmpty) (skipC false cs))) ∧ Rd w' b S (pre ++ skipped cs) ∧ Fr (· = b) w w' := by
  go_enter Tryd.func36, Tryd.ntmps36
  go_wp2_with fail
  go_loopg [3] cs.length (fun k x3 wr => ∃ (mid rest : List Nat) (cm : Bool), cs = mid ++ rest ∧ rest.length = k ∧ x3 = .bool cm ∧ skipC cm rest = skipC false cs ∧ Rd wr b S (pre ++ mid) ∧ Fr (· = b) w wr)
  case atStart => exact ⟨[], cs, false, rfl, rfl, rfl, rfl, by rw [List.append_nil]; exact hb, Fr.refl _ _⟩
  case round =>
    obtain ⟨mid, rest, cm, hsp, hk, rfl, hsk, hrd, hfr⟩ := hrel
    have T1 : Txt S.data.toList ((pre ++ mid) ++ rest) t := by rw [List.append_assoc, ← hsp]; exact T
    have A := Lib.hid (And.intro hsp (And.intro hk hsk))
    clear hsp hk hsk
    cases rest with
    | nil =>
      cases hB : (!t.isEmpty) with
      | true =>
        have HB := Lib.hid hB
        clear hB
        go_wp2_with fail
        refine (Look_is (v := -2) T1 hS hrd (by rw [HB.out]; rfl)).mono ?_
        rintro e w1 ⟨rfl, hq1⟩
        go_wp2_with fail
        go_ret
        obtain ⟨h1, h2, h3⟩ := A.out
        rw [skip_all h1 h3, ← h3]
        exact ⟨ret_int (by rw [HB.out]; rfl), hrd.qd hq1, hfr.qd hq1⟩
      | false =>
        have HB := Lib.hid hB
        clear hB
        go_wp2_with fail
        refine (Look_is (v := -1) T1 hS hrd (by rw [HB.out]; rfl)).mono ?_
        rintro e w1 ⟨rfl, hq1⟩
        go_wp2_with fail
        go_ret
        obtain ⟨h1, h2, h3⟩ := A.out
        rw [skip_all h1 h3, ← h3]
        exact ⟨ret_int (by rw [HB.out]; rfl), hrd.qd hq1, hfr.qd hq1⟩
    | cons c rest =>
      have hcn : ((c : Int) == -2) = false := by simp
      have hcm : ((c : Int) == -1) = false := by simp
      by_cases h10 : c = 10
      · have k10 : ((c : Int) == 10) = true := by simp; omega
        have k6 : (cls c == 6) = false := by rw [h10]; decide
        have k1 : (cls c != 1) = false := by rw [h10]; decide
        have SK := Lib.hid (show skipC cm (c :: rest) = skipC false rest by simp [skipC, h10])
        go_wp2_with fail
        refine (Look_is (v := (c : Int)) T1 hS hrd rfl).mono ?_
        rintro e w1 ⟨rfl, hq1⟩
        have hrd1 := hrd.qd hq1
        go_wp2_with fail
        refine (rClass_calls _ _).mono ?_
        rintro e w' ⟨rfl, rfl⟩
        go_wp2_with fail
        refine (rClass_calls _ _).mono ?_
        rintro e w' ⟨rfl, rfl⟩
        go_wp2_with fail
        refine (Next_at T1 hS hrd1).mono ?_
        rintro e w2 ⟨rfl, hrd2, hfr2⟩
        go_wp2_with fail
        obtain ⟨h1, h2, h3⟩ := A.out
        go_roundg rest.length
        case measure => simp at h2; omega
        case rel => exact ⟨mid ++ [c], rest, false, by rw [h1]; simp, rfl, rfl, by rw [← h3, SK.out], by rw [← List.append_assoc]; exact hrd2, (hfr.qd hq1).call hfr2 (fun _ _ x => x)⟩
      · have k10 : ((c : Int) == 10) = false := by simp; omega
        by_cases h6 : cls c = 6
        · have k6 : (cls c == 6) = true := by simp [h6]
          have SK := Lib.hid (show skipC cm (c :: rest) = skipC true rest by simp [skipC, h10, h6])
          clear h6
          go_wp2_with fail
          refine (Look_is (v := (c : Int)) T1 hS hrd rfl).mono ?_
          rintro e w1 ⟨rfl, hq1⟩
          have hrd1 := hrd.qd hq1
          go_wp2_with fail
          refine (rClass_calls _ _).mono ?_
          rintro e w' ⟨rfl, rfl⟩
          go_wp2_with fail
          refine (Next_at T1 hS hrd1).mono ?_
          rintro e w2 ⟨rfl, hrd2, hfr2⟩
          go_wp2_with fail
          obtain ⟨h1, h2, h3⟩ := A.out
          go_roundg rest.length
          case measure => simp at h2; omega
          case rel => exact ⟨mid ++ [c], rest, true, by rw [h1]; simp, rfl, rfl, by rw [← h3, SK.out], by rw [← List.append_assoc]; exact hrd2, (hfr.qd hq1).call hfr2 (fun _ _ x => x)⟩
        · have k6 : (cls c == 6) = false := by simp [h6]
          cases cm with
          | true =>
            have SK := Lib.hid (show skipC true (c :: rest) = skipC true rest by simp [skipC, h10, h6])
            clear h6
            go_wp2_with fail
            refine (Look_is (v := (c : Int)) T1 hS hrd rfl).mono ?_
            rintro e w1 ⟨rfl, hq1⟩
            have hrd1 := hrd.qd hq1
            go_wp2_with fail
            refine (rClass_calls _ _).mono ?_
            rintro e w' ⟨rfl, rfl⟩
            go_wp2_with fail
            refine (Next_at T1 hS hrd1).mono ?_
            rintro e w2 ⟨rfl, hrd2, hfr2⟩
            go_wp2_with fail
            obtain ⟨h1, h2, h3⟩ := A.out
            go_roundg rest.length
            case measure => simp at h2; omega
            case rel => exact ⟨mid ++ [c], rest, true, by rw [h1]; simp, rfl, rfl, by rw [← h3, SK.out], by rw [← List.append_assoc]; exact hrd2, (hfr.qd hq1).call hfr2 (fun _ _ x => x)⟩
          | false =>
            by_cases h1 : cls c = 1
            · have k1 : (cls c != 1) = false := by simp [h1]
              have SK := Lib.hid (show skipC false (c :: rest) = skipC false rest by simp [skipC, h10, h6, h1])
              clear h1 h6
              go_wp2_with fail
              refine (Look_is (v := (c : Int)) T1 hS hrd rfl).mono ?_
              rintro e w1 ⟨rfl, hq1⟩
              have hrd1 := hrd.qd hq1
              go_wp2_with fail
              refine (rClass_calls _ _).mono ?_
              rintro e w' ⟨rfl, rfl⟩
              go_wp2_with fail
              refine (rClass_calls _ _).mono ?_
              rintro e w' ⟨rfl, rfl⟩
              go_wp2_with fail
              refine (Next_at T1 hS hrd1).mono ?_
              rintro e w2 ⟨rfl, hrd2, hfr2⟩
              go_wp2_with fail
              obtain ⟨h1, h2, h3⟩ := A.out
              go_roundg rest.length
              case measure => simp at h2; omega
              case rel => exact ⟨mid ++ [c], rest, false, by rw [h1]; simp, rfl, rfl, by rw [← h3, SK.out], by rw [← List.append_assoc]; exact hrd2, (hfr.qd hq1).call hfr2 (fun _ _ x => x)⟩
            · have k1 : (cls c != 1) = true := by simp [h1]
              have SK := Lib.hid (show skipC false (c :: rest) = c :: rest by simp [skipC, h10, h6, h1])
              clear h1 h6
              go_wp2_with fail
              refine (Look_is (v := (c : Int)) T1 hS hrd rfl).mono ?_
              rintro e w1 ⟨rfl, hq1⟩
              have hrd1 := hrd.qd hq1
              go_wp2_with fail
              refine (rClass_calls _ _).mono ?_
              rintro e w' ⟨rfl, rfl⟩
              go_wp2_with fail
              refine (rClass_calls _ _).mono ?_
              rintro e w' ⟨rfl, rfl⟩
              go_wp2_with fail
              go_ret
              obtain ⟨h1, h2, h3⟩ := A.out
              rw [skip_all h1 (by rw [← h3, SK.out]), ← h3]
              exact ⟨ret_int (by rw [SK.out]; rfl), hrd1, hfr.qd hq1⟩
end Go.Proofs.YtklhfbgmadblcaaDoor
