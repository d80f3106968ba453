/- What is wrong behind a program that is right: where it is refused. -/
import Derived.Test.YtjmjdmmojgmcdaaDoorPA
namespace Go.Proofs.YtjmjdmmojgmcdaaDoor
open Go
set_option linter.unusedVariables false
set_option linter.unusedSimpArgs false
set_option exponentiation.threshold 5000

def Sms.cat : Sms → Sms → Sms
  | .nil, b => b
  | .cons s r, b => .cons s (r.cat b)
/-- statements that are right, and more behind them -/
theorem sms_more {nm : Nms} : ∀ (s : Sms) (o : Nat) (mk mk' : Nms) (n : Nat) (rest : List Tok), s.bk nm o mk mk' → 4 * (tkSms s).length + 5 ≤ n → stops rest →
    ∃ m, n ≤ m + 4 * (tkSms s).length ∧ rowS n nm mk o (kT (tkSms s) ++ rest) = (match rowS m nm mk' o rest with
      | .error e => .error e
      | .ok (l, mk2, r2) => .ok (s.no.cat l, mk2, r2))
  | .nil, o, mk, mk', n, rest, h, hn, hs => by
    simp only [Sms.bk] at h
    subst h
    refine ⟨n, by omega, ?_⟩
    have e : kT (tkSms .nil) ++ rest = rest := rfl
    rw [e]
    rcases rowS n nm mk' o rest with e | ⟨l, mk2, r2⟩ <;> rfl
  | .cons s r, o, mk, mk', n, rest, h, hn, hs => by
    obtain ⟨n, rfl⟩ : ∃ k, n = k + 1 := ⟨n - 1, by omega⟩
    simp only [Sms.bk] at h
    obtain ⟨mk1, h1, h2⟩ := h
    have hp := tkSm_pos s
    simp only [tkSms, List.length_append] at hn ⊢
    have e : kT (tkSm s ++ tkSms r) ++ rest = kT (tkSm s) ++ (kT (tkSms r) ++ rest) := by simp only [kT_app, List.append_assoc]
    have hst : stops (kT (tkSms r) ++ rest) := by
      cases r with
      | nil => exact hs
      | cons s2 r2 =>
        simp only [Sms.bk] at h2
        obtain ⟨mk2, h3, _⟩ := h2
        simp only [tkSms, kT_app, List.append_assoc]
        exact (stops_sm s2 h3 _).1
    have hk1 := (stops_sm s h1 (kT (tkSms r) ++ rest)).2
    have e1 := sm_back s o mk mk1 n (kT (tkSms r) ++ rest) h1 (by omega) hst
    obtain ⟨m, h3, h4⟩ := sms_more r o mk1 mk' n rest h2 (by omega) hs
    refine ⟨m, by omega, ?_⟩
    rw [e]
    conv => lhs; rw [rowS]
    rw [if_neg (by rw [hk1]; simp), e1]
    simp only [h4]
    rcases rowS m nm mk' o rest with e | ⟨l, mk2, r2⟩ <;> rfl
/-- what is behind the program is refused -/
def RowBad (nm : Nms) (lD : List Kt) (e : Tok) (t : List Tok) (c : Int) : Prop := ∀ (m : Nat) (mk : Nms), 12 ≤ m → rowS m nm mk 0 (kT lD ++ e :: t) = .error (c, e.at_) ∨ (c = 80 ∧ ∃ l mk2, rowS m nm mk 0 (kT lD ++ e :: t) = .ok (l, mk2, e :: t) ∧ e.kind ≠ 0)
theorem prog_bad {g : Pg} {mk : Nms} {n : Nat} {lD : List Kt} {e : Tok} {t : List Tok} {c : Int} (hb : BgsOk [] g.begins) (hs : g.body.bk (g.begins.map Bg.name) 0 [] mk) (hst : stops (kT lD ++ e :: t)) (hbad : RowBad (g.begins.map Bg.name) lD e t c) (hn : 4 * (tkP g).length + 14 ≤ n) :
    progS n (kT (tkP g ++ lD) ++ e :: t) = .error (c, e.at_) := by
  simp only [tkP, List.length_cons, List.length_append] at hn
  have hl := tkBgs_len g.begins 0
  have e0 : kT (tkP g ++ lD) ++ e :: t = mkT (1, vars_) :: (kT (tkBgs ([] : List Bg).length g.begins) ++ mkT (3, [59]) :: (kT (tkSms g.body) ++ (kT lD ++ e :: t))) := by simp [tkP, kT]
  have h1 := decls_back g.begins [] n (kT (tkSms g.body) ++ (kT lD ++ e :: t)) hb (by omega)
  obtain ⟨m, h2, h3⟩ := sms_more g.body 0 [] mk n (kT lD ++ e :: t) hs (by omega) hst
  rw [e0, progS, must_back (Or.inr rfl)]
  simp only [h1, List.nil_append, h3]
  rcases hbad m mk (by omega) with h | ⟨rfl, l, mk2, h, hk⟩
  · rw [h]
  · rw [h]
    simp only
    rw [if_neg (show ¬ (hereT (e :: t)).kind = 0 from hk)]
    rfl

/-! one thing that is wrong -/
theorem isT_tok (x : List UInt8) (e : Tok) (t : List Tok) : isT x (e :: t) = decide (e.text = x ∧ (e.kind = 3 ∨ e.kind = 1)) := rfl
theorem isT_tk (x y : List UInt8) (k : Int) (p : Pl) (t : List Tok) : isT x (⟨k, y, p⟩ :: t) = decide (y = x ∧ (k = 3 ∨ k = 1)) := rfl
theorem must_not {x : List UInt8} {e : Tok} {t : List Tok} (h : isT x (e :: t) = false) : mustS x (e :: t) = .error (80, e.at_) := by
  unfold mustS
  rw [if_neg (by rw [h]; decide)]
  rfl
theorem row_of_err {nm mk : Nms} {n : Nat} {r : List Tok} {er : Er} (hk : (hereT r).kind = 1) (h : stmtS n nm mk 0 r = .error er) : rowS (n + 1) nm mk 0 r = .error er := by
  rw [rowS, if_neg (by rw [hk]; simp), h]
theorem row_of_none {nm mk mk1 : Nms} {n o : Nat} {r r1 : List Tok} (hk : (hereT r).kind = 1) (h : stmtS n nm mk o r = .ok (none, mk1, r1)) : rowS (n + 1) nm mk o r = .ok (.nil, mk1, r1) := by
  rw [rowS, if_neg (by rw [hk]; simp), h]
/-- 0: } -/
theorem bad0 (nm : Nms) (p : Pl) (t : List Tok) : RowBad nm [] ⟨3, [125], p⟩ t 80 := fun m mk hm => by
  obtain ⟨m, rfl⟩ : ∃ k, m = k + 1 := ⟨m - 1, by omega⟩
  refine Or.inr ⟨rfl, .nil, mk, ?_, by show (3 : Int) ≠ 0; decide⟩
  show rowS (m + 1) nm mk 0 (⟨3, [125], p⟩ :: t) = _
  rw [rowS, if_pos (show ¬ (hereT (⟨3, [125], p⟩ :: t)).kind = 1 by show ¬ ((3 : Int) = 1); decide)]
/-- 1: skip -/
theorem bad1 (nm : Nms) (p : Pl) (t : List Tok) : RowBad nm [(1, skip_)] ⟨0, [], p⟩ t 80 := fun m mk hm => by
  obtain ⟨m, rfl⟩ : ∃ k, m = k + 2 := ⟨m - 2, by omega⟩
  refine Or.inl (row_of_err rfl ?_)
  show stmtS (m + 1) nm mk 0 (mkT (1, skip_) :: ⟨0, [], p⟩ :: t) = _
  rw [stmtS, if_neg (by rw [nameS_word (by decide)]; decide), if_pos (by rw [isT_mk]; decide), pass_mk (by decide), must_not (by rw [isT_tk]; simp)]
/-- a name that is none of the language's words -/
theorem name_tok {x : List UInt8} (h : wordS x = false) (p : Pl) (t : List Tok) : nameS (⟨1, x, p⟩ :: t) = true := by
  show (decide ((1 : Int) = 1) && !wordS x) = true
  rw [h]
  rfl
/-- 2: a name that is not declared -/
theorem bad2 {nm : Nms} {x : List UInt8} (hw : wordS x = false) (hv : varS nm x = none) (p : Pl) (t : List Tok) : RowBad nm [] ⟨1, x, p⟩ t 81 := fun m mk hm => by
  obtain ⟨m, rfl⟩ : ∃ k, m = k + 2 := ⟨m - 2, by omega⟩
  refine Or.inl (row_of_err rfl ?_)
  show stmtS (m + 1) nm mk 0 (⟨1, x, p⟩ :: t) = _
  have ha : assignS m nm 0 (⟨1, x, p⟩ :: t) = .error (81, p) := by
    unfold assignS
    rw [show varS nm (hereT (⟨1, x, p⟩ :: t)).text = none from hv]
    rfl
  rw [stmtS, if_pos (name_tok hw p t), ha]
/-- an assignment that is wrong -/
theorem bad_assign {nm : Nms} {x : List UInt8} {v : Nat} (hw : wordS x = false) (hv : varS nm x = some v) {l : List Kt} {e : Tok} {t : List Tok} {c : Int} (h : ∀ m, 8 ≤ m → (match mustS [58, 61] (kT l ++ e :: t) with
      | .error er => (.error er : Except Er (Sm × List Tok))
      | .ok r1 =>
        if isT any_ r1 then
          match mustS [59] (passT r1) with
          | .error er => .error er
          | .ok r2 => .ok (.set start v x none, r2)
        else
          match sumS m nm 0 r1 with
          | .error er => .error er
          | .ok (a, r2) =>
            match mustS [59] r2 with
            | .error er => .error er
            | .ok r3 => .ok (.set start v x (some a), r3)) = .error (c, e.at_)) : RowBad nm ((1, x) :: l) e t c := fun m mk hm => by
  obtain ⟨m, rfl⟩ : ∃ k, m = k + 2 := ⟨m - 2, by omega⟩
  refine Or.inl (row_of_err rfl ?_)
  have e1 : kT ((1, x) :: l) ++ e :: t = mkT (1, x) :: (kT l ++ e :: t) := rfl
  have ha : assignS m nm 0 (mkT (1, x) :: (kT l ++ e :: t)) = .error (c, e.at_) := by
    unfold assignS
    rw [show varS nm (hereT (mkT (1, x) :: (kT l ++ e :: t))).text = some v from hv, pass_mk (a := (1, x)) (by simp)]
    exact h m (by omega)
  rw [e1, stmtS, if_pos (nameS_mk hw _), ha]
theorem num1 {n : Nat} {nm : Nms} {o : Nat} (r : List Tok) (hr : noMul r) : prodS (n + 2) nm o (mkT (2, [49]) :: r) = .ok (.num 1, r) := by
  rw [prodS]
  have hu : unS (n + 1) nm o (mkT (2, [49]) :: r) = .ok (.num 1, r) := by
    rw [unS, if_neg (by rw [isT_mk]; decide), if_pos (show (hereT (mkT (2, [49]) :: r)).kind = 2 from rfl), pass_mk (by decide)]
    rfl
  rw [hu]
  simp only [pl_end hr (Nat.succ_pos n)]
theorem noMul_tok {k : Int} {y : List UInt8} {p : Pl} {t : List Tok} (h : y ≠ [42] ∧ y ≠ [47] ∧ y ≠ [37]) : noMul (⟨k, y, p⟩ :: t) := ⟨by rw [isT_tk]; simp [h.1], by rw [isT_tk]; simp [h.2.1], by rw [isT_tk]; simp [h.2.2]⟩
theorem noAdd_tok {k : Int} {y : List UInt8} {p : Pl} {t : List Tok} (h : y ≠ [43] ∧ y ≠ [45]) : noAdd (⟨k, y, p⟩ :: t) := ⟨by rw [isT_tk]; simp [h.1], by rw [isT_tk]; simp [h.2]⟩
theorem sum1 {n : Nat} {nm : Nms} {o : Nat} (r : List Tok) (hr : noMul r) (ha : noAdd r) : sumS (n + 3) nm o (mkT (2, [49]) :: r) = .ok (.num 1, r) := by
  rw [sumS, num1 r hr]
  simp only [sl_end ha (Nat.succ_pos _)]
/-- 3: x = -/
theorem bad3 {nm : Nms} {x : List UInt8} {v : Nat} (hw : wordS x = false) (hv : varS nm x = some v) (p : Pl) (t : List Tok) : RowBad nm [(1, x)] ⟨3, [61], p⟩ t 80 :=
  bad_assign (l := []) hw hv (fun m hm => by
    rw [show kT [] ++ (⟨3, [61], p⟩ : Tok) :: t = ⟨3, [61], p⟩ :: t from rfl, must_not (by rw [isT_tk]; decide)])
/-- 4: x := 1 +; -/
theorem bad4 {nm : Nms} {x : List UInt8} {v : Nat} (hw : wordS x = false) (hv : varS nm x = some v) (p : Pl) (t : List Tok) : RowBad nm [(1, x), (3, [58, 61]), (2, [49]), (3, [43])] ⟨3, [59], p⟩ t 80 :=
  bad_assign (l := [(3, [58, 61]), (2, [49]), (3, [43])]) hw hv (fun m hm => by
    obtain ⟨m, rfl⟩ : ∃ k, m = k + 6 := ⟨m - 6, by omega⟩
    rw [show kT [(3, [58, 61]), (2, [49]), (3, [43])] ++ (⟨3, [59], p⟩ : Tok) :: t = mkT (3, [58, 61]) :: mkT (2, [49]) :: mkT (3, [43]) :: ⟨3, [59], p⟩ :: t from rfl, must3]
    simp only
    rw [if_neg (by rw [isT_mk]; decide)]
    have hu : unS (m + 3) nm 0 (⟨3, [59], p⟩ :: t) = .error (80, p) := by
      rw [unS, if_neg (by rw [isT_tk]; decide), if_neg (show ¬ (hereT (⟨3, [59], p⟩ :: t)).kind = 2 by show ¬ ((3 : Int) = 2); decide), if_neg (by rw [show nameS (⟨3, [59], p⟩ :: t) = false from rfl]; decide), if_pos (by show ¬ ((3 : Int) = 3 ∧ ([59] : List UInt8) = [40]); decide)]
      rfl
    have hs : sumS (m + 6) nm 0 (mkT (2, [49]) :: mkT (3, [43]) :: ⟨3, [59], p⟩ :: t) = .error (80, p) := by
      rw [sumS, num1 _ (noMul_sign (by decide) _)]
      simp only
      rw [sumL, if_pos (by rw [isT_mk]; decide), pass_mk (by decide), prodS, hu]
    rw [hs])
/-- 5: x := (1; -/
theorem bad5 {nm : Nms} {x : List UInt8} {v : Nat} (hw : wordS x = false) (hv : varS nm x = some v) (p : Pl) (t : List Tok) : RowBad nm [(1, x), (3, [58, 61]), (3, [40]), (2, [49])] ⟨3, [59], p⟩ t 80 :=
  bad_assign (l := [(3, [58, 61]), (3, [40]), (2, [49])]) hw hv (fun m hm => by
    obtain ⟨m, rfl⟩ : ∃ k, m = k + 6 := ⟨m - 6, by omega⟩
    rw [show kT [(3, [58, 61]), (3, [40]), (2, [49])] ++ (⟨3, [59], p⟩ : Tok) :: t = mkT (3, [58, 61]) :: mkT (3, [40]) :: mkT (2, [49]) :: ⟨3, [59], p⟩ :: t from rfl, must3]
    simp only
    rw [if_neg (by rw [isT_mk]; decide)]
    have hs : sumS (m + 6) nm 0 (mkT (3, [40]) :: mkT (2, [49]) :: ⟨3, [59], p⟩ :: t) = .error (80, p) := by
      rw [sumS, prodS, unS, if_neg (by rw [isT_mk]; decide), if_neg (show ¬ (hereT (mkT (3, [40]) :: mkT (2, [49]) :: ⟨3, [59], p⟩ :: t)).kind = 2 by show ¬ ((3 : Int) = 2); decide), if_neg (by rw [show nameS (mkT (3, [40]) :: mkT (2, [49]) :: ⟨3, [59], p⟩ :: t) = false from rfl]; decide), if_neg (by show ¬ ¬ ((3 : Int) = 3 ∧ ([40] : List UInt8) = [40]); simp), if_neg (by decide), pass_mk (by decide), sum1 _ (noMul_tok (by decide)) (noAdd_tok (by decide))]
      simp only
      rw [if_neg (by rw [isT_tk]; decide)]
      rfl
    rw [hs])
/-- 15: x := any + -/
theorem bad15 {nm : Nms} {x : List UInt8} {v : Nat} (hw : wordS x = false) (hv : varS nm x = some v) (p : Pl) (t : List Tok) : RowBad nm [(1, x), (3, [58, 61]), (1, any_)] ⟨3, [43], p⟩ t 80 :=
  bad_assign (l := [(3, [58, 61]), (1, any_)]) hw hv (fun m hm => by
    rw [show kT [(3, [58, 61]), (1, any_)] ++ (⟨3, [43], p⟩ : Tok) :: t = mkT (3, [58, 61]) :: mkT (1, any_) :: ⟨3, [43], p⟩ :: t from rfl, must3]
    simp only
    rw [if_pos (by rw [isT_mk]; decide), pass_mk (by decide), must_not (by rw [isT_tk]; decide)])
/-- a mark that is wrong -/
theorem bad_mark {nm : Nms} {e : Tok} {t : List Tok} {c : Int} (h : ∀ mk, markS start mk (e :: t) = .error (c, e.at_)) : RowBad nm [(1, mark_)] e t c := fun m mk hm => by
  obtain ⟨m, rfl⟩ : ∃ k, m = k + 2 := ⟨m - 2, by omega⟩
  refine Or.inl (row_of_err rfl ?_)
  show stmtS (m + 1) nm mk 0 (mkT (1, mark_) :: e :: t) = _
  rw [stmtS, if_neg (by rw [nameS_word (by decide)]; decide), if_neg (by rw [isT_mk]; decide), if_neg (by rw [isT_mk]; decide), if_pos (by rw [isT_mk]; decide), pass_mk (by decide), show (hereT (mkT (1, mark_) :: e :: t)).at_ = start from rfl, h]
/-- 6, 7: a mark's name that may not be one -/
theorem bad6 (nm : Nms) {x : List UInt8} (hw : wordS x = false) (hs : shortS x = false) (p : Pl) (t : List Tok) : RowBad nm [(1, mark_)] ⟨1, x, p⟩ t 42 :=
  bad_mark fun mk => by
    unfold markS
    rw [if_neg (by rw [name_tok hw]; decide), if_pos (show shortS (hereT (⟨1, x, p⟩ :: t)).text = false from hs)]
    rfl
/-- 13: mark any -/
theorem bad13 (nm : Nms) (p : Pl) (t : List Tok) : RowBad nm [(1, mark_)] ⟨1, any_, p⟩ t 80 :=
  bad_mark fun mk => by
    unfold markS
    rw [if_pos (show nameS (⟨1, any_, p⟩ :: t) = false by show (decide ((1 : Int) = 1) && !wordS any_) = false; decide)]
    rfl
/-- 8: if 1 { -/
theorem bad8 (nm : Nms) (p : Pl) (t : List Tok) : RowBad nm [(1, if_), (2, [49])] ⟨3, [123], p⟩ t 80 := fun m mk hm => by
  obtain ⟨m, rfl⟩ : ∃ k, m = k + 6 := ⟨m - 6, by omega⟩
  refine Or.inl (row_of_err rfl ?_)
  show stmtS (m + 5) nm mk 0 (mkT (1, if_) :: mkT (2, [49]) :: ⟨3, [123], p⟩ :: t) = _
  have hc : condS (m + 4) nm 0 (mkT (2, [49]) :: ⟨3, [123], p⟩ :: t) = .error (80, p) := by
    unfold condS
    rw [sum1 _ (noMul_tok (by decide)) (noAdd_tok (by decide))]
    simp only
    rw [if_neg (by rw [isT_tk]; decide), must_not (by rw [isT_tk]; decide)]
  rw [stmtS, if_neg (by rw [nameS_word (by decide)]; decide), if_neg (by rw [isT_mk]; decide), if_neg (by rw [isT_mk]; decide), if_neg (by rw [isT_mk]; decide), if_neg (by rw [isT_mk]; decide), if_neg (by rw [isT_mk]; decide), if_pos (by rw [isT_mk]; decide), pass_mk (by decide), hc]
theorem block_not {n : Nat} {nm mk : Nms} {e : Tok} {t : List Tok} (h : ¬ (e.kind = 3 ∧ e.text = [123])) : blockS (n + 1) nm mk 0 (e :: t) = .error (80, e.at_) := by
  have hi : intoS [123] 0 (e :: t) = .error (80, e.at_) := by
    unfold intoS
    rw [if_pos (show ¬ ((hereT (e :: t)).kind = 3 ∧ (hereT (e :: t)).text = [123]) from h)]
    rfl
  rw [blockS, hi]
/-- 9: choose { } or -/
theorem bad9 (nm : Nms) (p : Pl) (t : List Tok) : RowBad nm [(1, choose_), (3, [123]), (3, [125]), (1, or_)] ⟨0, [], p⟩ t 80 := fun m mk hm => by
  obtain ⟨m, rfl⟩ : ∃ k, m = k + 9 := ⟨m - 9, by omega⟩
  refine Or.inl (row_of_err rfl ?_)
  show stmtS (m + 8) nm mk 0 (mkT (1, choose_) :: mkT (3, [123]) :: mkT (3, [125]) :: mkT (1, or_) :: ⟨0, [], p⟩ :: t) = _
  have h1 : blockS (m + 7) nm mk 0 (mkT (3, [123]) :: mkT (3, [125]) :: mkT (1, or_) :: ⟨0, [], p⟩ :: t) = .ok (.nil, mk, mkT (1, or_) :: ⟨0, [], p⟩ :: t) :=
    block_back (n := m + 6) (nm := nm) (mk := mk) (mk' := mk) (b := .nil) (by omega) (fun rest hk hst => sms_back .nil 1 mk mk (m + 6) rest (by simp only [Sms.bk]) (by simp only [tkSms, List.length_nil]; omega) hk hst) (mkT (1, or_) :: ⟨0, [], p⟩ :: t)
  have h2 : orS (m + 7) nm mk 0 (mkT (1, or_) :: ⟨0, [], p⟩ :: t) = .error (80, p) := by
    rw [orS, if_pos (by rw [isT_mk]; decide), pass_mk (by decide), block_not (by simp)]
  rw [stmtS, if_neg (by rw [nameS_word (by decide)]; decide), if_neg (by rw [isT_mk]; decide), if_neg (by rw [isT_mk]; decide), if_neg (by rw [isT_mk]; decide), if_pos (by rw [isT_mk]; decide), pass_mk (by decide), h1]
  simp only [h2]
/-- 10: while 1 = 1 ; -/
theorem bad10 (nm : Nms) (p : Pl) (t : List Tok) : RowBad nm [(1, while_), (2, [49]), (3, [61]), (2, [49])] ⟨3, [59], p⟩ t 80 := fun m mk hm => by
  obtain ⟨m, rfl⟩ : ∃ k, m = k + 6 := ⟨m - 6, by omega⟩
  refine Or.inl (row_of_err rfl ?_)
  show stmtS (m + 5) nm mk 0 (mkT (1, while_) :: mkT (2, [49]) :: mkT (3, [61]) :: mkT (2, [49]) :: ⟨3, [59], p⟩ :: t) = _
  have hc : condS (m + 4) nm 0 (mkT (2, [49]) :: mkT (3, [61]) :: mkT (2, [49]) :: ⟨3, [59], p⟩ :: t) = .ok ((.num 1, .num 1, true), ⟨3, [59], p⟩ :: t) := by
    unfold condS
    rw [sum1 _ (noMul_sign (by decide) _) (noAdd_sign (by decide) _)]
    simp only
    rw [if_pos (by rw [isT_mk]; decide), pass_mk (by decide), sum1 _ (noMul_tok (by decide)) (noAdd_tok (by decide))]
  rw [stmtS, if_neg (by rw [nameS_word (by decide)]; decide), if_neg (by rw [isT_mk]; decide), if_neg (by rw [isT_mk]; decide), if_neg (by rw [isT_mk]; decide), if_neg (by rw [isT_mk]; decide), if_neg (by rw [isT_mk]; decide), if_neg (by rw [isT_mk]; decide), if_pos (by rw [isT_mk]; decide), pass_mk (by decide), hc]
  simp only
  rw [block_not (by simp)]
theorem word_none {nm mk : Nms} {n o : Nat} {x : List UInt8} {p : Pl} {t : List Tok} (hx : x = or_ ∨ x = vars_) : stmtS (n + 1) nm mk o (⟨1, x, p⟩ :: t) = .ok (none, mk, ⟨1, x, p⟩ :: t) := by
  have hn : nameS (⟨1, x, p⟩ :: t) = false := by
    show (decide ((1 : Int) = 1) && !wordS x) = false
    rcases hx with rfl | rfl <;> decide
  have hi : ∀ y, y ≠ or_ ∧ y ≠ vars_ → isT y (⟨1, x, p⟩ :: t) = false := by
    intro y hy
    rw [isT_tk]
    rcases hx with rfl | rfl <;> simp [hy.1.symm, hy.2.symm]
  rw [stmtS, if_neg (by rw [hn]; decide), if_neg (by rw [hi _ (by decide)]; decide), if_neg (by rw [hi _ (by decide)]; decide), if_neg (by rw [hi _ (by decide)]; decide), if_neg (by rw [hi _ (by decide)]; decide), if_neg (by rw [hi _ (by decide)]; decide), if_neg (by rw [hi _ (by decide)]; decide), if_neg (by rw [hi _ (by decide)]; decide)]
/-- 11: loop { or -/
theorem bad11 (nm : Nms) (p : Pl) (t : List Tok) : RowBad nm [(1, loop_), (3, [123])] ⟨1, or_, p⟩ t 80 := fun m mk hm => by
  obtain ⟨m, rfl⟩ : ∃ k, m = k + 9 := ⟨m - 9, by omega⟩
  refine Or.inl (row_of_err rfl ?_)
  show stmtS (m + 8) nm mk 0 (mkT (1, loop_) :: mkT (3, [123]) :: ⟨1, or_, p⟩ :: t) = _
  have hi : intoS [123] 0 (mkT (3, [123]) :: ⟨1, or_, p⟩ :: t) = .ok (⟨1, or_, p⟩ :: t) := by
    unfold intoS
    rw [if_neg (by show ¬ ¬ ((3 : Int) = 3 ∧ ([123] : List UInt8) = [123]); simp), if_neg (by omega), pass_mk (by decide)]
  have h1 : blockS (m + 7) nm mk 0 (mkT (3, [123]) :: ⟨1, or_, p⟩ :: t) = .error (80, p) := by
    rw [blockS, hi]
    simp only
    rw [row_of_none (r1 := ⟨1, or_, p⟩ :: t) (mk1 := mk) rfl (word_none (Or.inl rfl))]
    simp only
    rw [must_not (by rw [isT_tk]; decide)]
  rw [stmtS, if_neg (by rw [nameS_word (by decide)]; decide), if_neg (by rw [isT_mk]; decide), if_neg (by rw [isT_mk]; decide), if_neg (by rw [isT_mk]; decide), if_neg (by rw [isT_mk]; decide), if_pos (by rw [isT_mk]; decide), pass_mk (by decide), h1]
/-- 12: vars -/
theorem bad12 (nm : Nms) (p : Pl) (t : List Tok) : RowBad nm [] ⟨1, vars_, p⟩ t 80 := fun m mk hm => by
  obtain ⟨m, rfl⟩ : ∃ k, m = k + 2 := ⟨m - 2, by omega⟩
  exact Or.inr ⟨rfl, .nil, mk, row_of_none rfl (word_none (Or.inr rfl)), by show (1 : Int) ≠ 0; decide⟩
end Go.Proofs.YtjmjdmmojgmcdaaDoor
