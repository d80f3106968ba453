/- The program's scanner: while. -/
import Derived.Test.YtklhfbgmadblcaaDoorC3
namespace Go.Proofs.YtklhfbgmadblcaaDoor
open Go.RowKit
set_option linter.unusedVariables false
set_option linter.unusedSimpArgs false

/-- what class tells -/
def hc (l : List Nat) : Int := match l with
  | [] => -1
  | c :: _ => cls c

theorem class_at {S : ByteArray} {pre rest : List Nat} {t : List UInt8} (T : Txt S.data.toList (pre ++ rest) t) {w : World} {b : Nat} {p : Pl} (hb : Sc w b rest t p 0 zeroPl) (hT : Tb w) :
    Calls Tryd.prog 55 #[ptrV b] w fun e w' => e = .returned (.int .i64 (hc rest)) ∧ Sc w' b rest t p (bk rest t p).1 (bk rest t p).2 ∧ Fr (· = b) w w' := by
  cases rest with
  | nil => exact class_none' T.stop (.begin hb) hT
  | cons c r => exact (class_some (T.ok c (by simp)) hb hT).mono fun e w' ⟨h1, h2⟩ => ⟨h1, hb.no h2, h2.mono (fun _ _ x => x.elim)⟩

theorem tx_head {mid rest : List Nat} {t : List UInt8} : (tx (mid ++ rest) t).extract 0 ((tx (mid ++ rest) t).size - (tx rest t).size) = ⟨(mid.flatMap enc).toArray⟩ := by
  rw [Lib.extract_eq]
  have h1 : (tx (mid ++ rest) t).data.toList = mid.flatMap enc ++ (rest.flatMap enc ++ t) := by rw [tx_list]; simp
  have h2 : (tx rest t).size = (rest.flatMap enc ++ t).length := by rw [Lib.size_eq, tx_list]
  have h3 : (tx (mid ++ rest) t).size = (mid.flatMap enc).length + (rest.flatMap enc ++ t).length := by rw [Lib.size_eq, h1, List.length_append]
  rw [h1, h2, h3, List.drop_zero, Nat.sub_zero, Nat.add_sub_cancel, List.take_left]
theorem tx_mid_size {mid rest : List Nat} {t : List UInt8} : (tx rest t).size ≤ (tx (mid ++ rest) t).size := by
  rw [Lib.size_eq, Lib.size_eq, tx_list, tx_list]; simp

def nameQ (k : Int) : Bool := k == 2 || (k == 3 || k == 4)
def digQ (k : Int) : Bool := k == 3

set_option maxHeartbeats 400000 in
theorem in_name (c : Int) (w : World) : Calls Tryd.prog 59 #[.int .i64 c] w fun e w' => e = .returned (.bool (nameQ c)) ∧ w = w' := by
  by_cases h2 : (c == 2) = true
  · go_enter Tryd.func59, Tryd.ntmps59
    go_wp2
    go_ret
    exact ⟨ret_bool (by simp [nameQ, h2]), rfl⟩
  · have h2' : (c == 2) = false := by simpa using h2
    clear h2
    by_cases h3 : (c == 3) = true
    · go_enter Tryd.func59, Tryd.ntmps59
      go_wp2
      go_ret
      exact ⟨ret_bool (by simp [nameQ, h3]), rfl⟩
    · have h3' : (c == 3) = false := by simpa using h3
      clear h3
      go_enter Tryd.func59, Tryd.ntmps59
      go_wp2
      go_ret
      exact ⟨ret_bool (by simp [nameQ, h2', h3']), rfl⟩

set_option maxHeartbeats 400000 in
theorem in_digit (c : Int) (w : World) : Calls Tryd.prog 62 #[.int .i64 c] w fun e w' => e = .returned (.bool (digQ c)) ∧ w = w' := by
  go_enter Tryd.func62, Tryd.ntmps62
  go_wp2
  go_ret
  exact ⟨rfl, rfl⟩

set_option maxHeartbeats 2000000 in
theorem while_name
    {S : ByteArray} {pre cs : List Nat} {t : List UInt8} (T : Txt S.data.toList (pre ++ cs) t) (hS : S.size ≤ 4096) {w : World} {b : Nat} (hb : Sc w b cs t (along start pre) 0 zeroPl) (hT : Tb w) :
    Calls Tryd.prog 58 #[ptrV b, .func (.func 59) #[] #[]] w fun e w' => ∃ mid rest, cs = mid ++ rest ∧ (∀ c ∈ mid, nameQ (cls c) = true) ∧ (∀ c r, rest = c :: r → nameQ (cls c) = false) ∧
      e = .returned (.string ⟨(mid.flatMap enc).toArray⟩) ∧ Sc w' b rest t (along start (pre ++ mid)) (bk rest t (along start (pre ++ mid))).1 (bk rest t (along start (pre ++ mid))).2 ∧ Fr (· = b) w w' := by
  obtain ⟨hn0, hn1⟩ := hT.sc hb
  have r0 : w.cell? ⟨b, 0, none⟩ = some (.string (tx cs t)) := hb.blk.cell 0 _ rfl
  have hsz := tx_size T hS
  go_enter Tryd.func58, Tryd.ntmps58
  go_wp2_with fail
  refine (class_at T hb hT).mono ?_
  rintro e w1 ⟨rfl, hs1, hf1⟩
  go_wp2_with fail
  go_loopg [6] (cs.length) (fun gk x6 wr => ∃ mid rest, cs = mid ++ rest ∧ gk = rest.length ∧ x6 = .int .i64 (hc rest) ∧ (∀ c ∈ mid, nameQ (cls c) = true) ∧ Sc wr b rest t (along start (pre ++ mid)) (bk rest t (along start (pre ++ mid))).1 (bk rest t (along start (pre ++ mid))).2 ∧ Fr (· = b) w wr)
  case atStart => exact ⟨[], cs, rfl, rfl, rfl, by simp, by simpa using hs1, hf1⟩
  case round =>
    obtain ⟨mid, rest, h1, h2, rfl, h3, hs, hf⟩ := hrel
    have T1 : Txt S.data.toList ((pre ++ mid) ++ rest) t := by rw [List.append_assoc, ← h1]; exact T
    have hTr := hT.fr hf hn0 hn1
    have k0 : wr.cell? ⟨b, 0, none⟩ = some (.string (tx rest t)) := hs.blk.cell 0 _ rfl
    have hle : (tx rest t).size ≤ (tx cs t).size := by subst h1; exact tx_mid_size
    have A := Lib.hid (And.intro h1 (And.intro h2 h3))
    clear h1 h2 h3
    cases rest with
    | nil =>
      have z1 : decide ((0 : Int) ≤ hc []) = false := rfl
      go_wp2_with fail
      go_ret
      obtain ⟨h1, h2, h3⟩ := A.out
      refine ⟨mid, [], h1, h3, (fun c r h => by cases h), ?_, hs, hf⟩
      subst h1
      exact ret_str tx_head
    | cons c r =>
      have z1 : decide ((0 : Int) ≤ hc (c :: r)) = true := decide_eq_true (cls_range c).1
      have hcc : hc (c :: r) = cls c := rfl
      rw [hcc] at z1
      rw [hcc]
      clear hcc
      cases hqc : nameQ (cls c) with
      | false =>
        have HQ := Lib.hid hqc
        clear hqc
        go_wp2_with fail
        refine (in_name _ _).mono ?_
        rintro e w2 ⟨rfl, rfl⟩
        rw [HQ.out]
        go_wp2_with fail
        go_ret
        obtain ⟨h1, h2, h3⟩ := A.out
        refine ⟨mid, c :: r, h1, h3, (fun c' r' h => by cases h; exact HQ.out), ?_, hs, hf⟩
        subst h1
        exact ret_str tx_head
      | true =>
        have HQ := Lib.hid hqc
        clear hqc
        go_wp2_with fail
        refine (in_name _ _).mono ?_
        rintro e w2 ⟨rfl, rfl⟩
        rw [HQ.out]
        go_wp2_with fail
        refine (pass_at T1 hS (.begin hs) hTr).mono ?_
        rintro e w3 ⟨rfl, hs3, hf3⟩
        have T3 : Txt S.data.toList ((pre ++ mid ++ [c]) ++ r) t := by simpa using T1
        have hf4 := hf.call hf3 (fun _ _ x => x)
        have hT3 := hT.fr hf4 hn0 hn1
        go_wp2_with fail
        refine (class_at T3 hs3 hT3).mono ?_
        rintro e w4 ⟨rfl, hs4, hf5⟩
        go_wp2_with fail
        obtain ⟨h1, h2, h3⟩ := A.out
        go_roundg r.length
        case measure => rw [h2]; simp
        case rel =>
          refine ⟨mid ++ [c], r, by rw [h1]; simp, rfl, rfl, ?_, by rw [← List.append_assoc]; exact hs4, hf4.call hf5 (fun _ _ x => x)⟩
          intro d hd
          rcases List.mem_append.1 hd with hd | hd
          · exact h3 d hd
          · simp at hd; subst hd; exact HQ.out
set_option maxHeartbeats 2000000 in
theorem while_digit
    {S : ByteArray} {pre cs : List Nat} {t : List UInt8} (T : Txt S.data.toList (pre ++ cs) t) (hS : S.size ≤ 4096) {w : World} {b : Nat} (hb : Sc w b cs t (along start pre) 0 zeroPl) (hT : Tb w) :
    Calls Tryd.prog 58 #[ptrV b, .func (.func 62) #[] #[]] w fun e w' => ∃ mid rest, cs = mid ++ rest ∧ (∀ c ∈ mid, digQ (cls c) = true) ∧ (∀ c r, rest = c :: r → digQ (cls c) = false) ∧
      e = .returned (.string ⟨(mid.flatMap enc).toArray⟩) ∧ Sc w' b rest t (along start (pre ++ mid)) (bk rest t (along start (pre ++ mid))).1 (bk rest t (along start (pre ++ mid))).2 ∧ Fr (· = b) w w' := by
  obtain ⟨hn0, hn1⟩ := hT.sc hb
  have r0 : w.cell? ⟨b, 0, none⟩ = some (.string (tx cs t)) := hb.blk.cell 0 _ rfl
  have hsz := tx_size T hS
  go_enter Tryd.func58, Tryd.ntmps58
  go_wp2_with fail
  refine (class_at T hb hT).mono ?_
  rintro e w1 ⟨rfl, hs1, hf1⟩
  go_wp2_with fail
  go_loopg [6] (cs.length) (fun gk x6 wr => ∃ mid rest, cs = mid ++ rest ∧ gk = rest.length ∧ x6 = .int .i64 (hc rest) ∧ (∀ c ∈ mid, digQ (cls c) = true) ∧ Sc wr b rest t (along start (pre ++ mid)) (bk rest t (along start (pre ++ mid))).1 (bk rest t (along start (pre ++ mid))).2 ∧ Fr (· = b) w wr)
  case atStart => exact ⟨[], cs, rfl, rfl, rfl, by simp, by simpa using hs1, hf1⟩
  case round =>
    obtain ⟨mid, rest, h1, h2, rfl, h3, hs, hf⟩ := hrel
    have T1 : Txt S.data.toList ((pre ++ mid) ++ rest) t := by rw [List.append_assoc, ← h1]; exact T
    have hTr := hT.fr hf hn0 hn1
    have k0 : wr.cell? ⟨b, 0, none⟩ = some (.string (tx rest t)) := hs.blk.cell 0 _ rfl
    have hle : (tx rest t).size ≤ (tx cs t).size := by subst h1; exact tx_mid_size
    have A := Lib.hid (And.intro h1 (And.intro h2 h3))
    clear h1 h2 h3
    cases rest with
    | nil =>
      have z1 : decide ((0 : Int) ≤ hc []) = false := rfl
      go_wp2_with fail
      go_ret
      obtain ⟨h1, h2, h3⟩ := A.out
      refine ⟨mid, [], h1, h3, (fun c r h => by cases h), ?_, hs, hf⟩
      subst h1
      exact ret_str tx_head
    | cons c r =>
      have z1 : decide ((0 : Int) ≤ hc (c :: r)) = true := decide_eq_true (cls_range c).1
      have hcc : hc (c :: r) = cls c := rfl
      rw [hcc] at z1
      rw [hcc]
      clear hcc
      cases hqc : digQ (cls c) with
      | false =>
        have HQ := Lib.hid hqc
        clear hqc
        go_wp2_with fail
        refine (in_digit _ _).mono ?_
        rintro e w2 ⟨rfl, rfl⟩
        rw [HQ.out]
        go_wp2_with fail
        go_ret
        obtain ⟨h1, h2, h3⟩ := A.out
        refine ⟨mid, c :: r, h1, h3, (fun c' r' h => by cases h; exact HQ.out), ?_, hs, hf⟩
        subst h1
        exact ret_str tx_head
      | true =>
        have HQ := Lib.hid hqc
        clear hqc
        go_wp2_with fail
        refine (in_digit _ _).mono ?_
        rintro e w2 ⟨rfl, rfl⟩
        rw [HQ.out]
        go_wp2_with fail
        refine (pass_at T1 hS (.begin hs) hTr).mono ?_
        rintro e w3 ⟨rfl, hs3, hf3⟩
        have T3 : Txt S.data.toList ((pre ++ mid ++ [c]) ++ r) t := by simpa using T1
        have hf4 := hf.call hf3 (fun _ _ x => x)
        have hT3 := hT.fr hf4 hn0 hn1
        go_wp2_with fail
        refine (class_at T3 hs3 hT3).mono ?_
        rintro e w4 ⟨rfl, hs4, hf5⟩
        go_wp2_with fail
        obtain ⟨h1, h2, h3⟩ := A.out
        go_roundg r.length
        case measure => rw [h2]; simp
        case rel =>
          refine ⟨mid ++ [c], r, by rw [h1]; simp, rfl, rfl, ?_, by rw [← List.append_assoc]; exact hs4, hf4.call hf5 (fun _ _ x => x)⟩
          intro d hd
          rcases List.mem_append.1 hd with hd | hd
          · exact h3 d hd
          · simp at hd; subst hd; exact HQ.out
end Go.Proofs.YtklhfbgmadblcaaDoor
