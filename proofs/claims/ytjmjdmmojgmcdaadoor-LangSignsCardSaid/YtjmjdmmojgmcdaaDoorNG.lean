/- What is read hangs on the tokens' kinds and texts alone, but for places. -/
import Derived.Test.YtjmjdmmojgmcdaaDoorMD
namespace Go.Proofs.YtjmjdmmojgmcdaaDoor
open Go
set_option linter.unusedVariables false
set_option linter.unusedSimpArgs false

/-- a token without its place -/
def noP (x : Tok) : Tok := ⟨x.kind, x.text, start⟩
def noR (r : List Tok) : List Tok := r.map noP
/-- an answer without places -/
def noE {α : Type} (f : α → α) : Except Er (α × List Tok) → Except Er (α × List Tok)
  | .error e => .error (e.1, start)
  | .ok (a, r) => .ok (f a, noR r)
def noT : Except Er (List Tok) → Except Er (List Tok)
  | .error e => .error (e.1, start)
  | .ok r => .ok (noR r)
def noM {α : Type} (f : α → α) : RS α → RS α
  | .error e => .error (e.1, start)
  | .ok (a, mk, r) => .ok (f a, mk, noR r)
theorem here_no (r : List Tok) : hereT (noR r) = noP (hereT r) := by cases r <;> rfl
theorem pass_no (r : List Tok) : passT (noR r) = noR (passT r) := by
  cases r with
  | nil => rfl
  | cons x r => show (if x.kind = 0 then noP x :: noR r else noR r) = noR (if x.kind = 0 then x :: r else r); split <;> rfl
theorem kind_no (r : List Tok) : (hereT (noR r)).kind = (hereT r).kind := by rw [here_no]; rfl
theorem text_no (r : List Tok) : (hereT (noR r)).text = (hereT r).text := by rw [here_no]; rfl
theorem at_no (r : List Tok) : (hereT (noR r)).at_ = start := by rw [here_no]; rfl
theorem is_no (x : List UInt8) (r : List Tok) : isT x (noR r) = isT x r := by simp only [isT, kind_no, text_no]
theorem name_no (r : List Tok) : nameS (noR r) = nameS r := by simp only [nameS, kind_no, text_no]
theorem must_np (x : List UInt8) (r : List Tok) : mustS x (noR r) = noT (mustS x r) := by
  unfold mustS; simp only [is_no, pass_no, at_no]; split <;> rfl
theorem into_no (x : List UInt8) (o : Nat) (r : List Tok) : intoS x o (noR r) = noT (intoS x o r) := by
  unfold intoS; simp only [kind_no, text_no, pass_no, at_no]; split
  · rfl
  · split <;> rfl
theorem no_len (r : List Tok) : (noR r).length = r.length := by simp [noR]

structure ExNo (n : Nat) (nm : List (List UInt8)) : Prop where
  un : ∀ (o : Nat) (r : List Tok), unS n nm o (noR r) = noE id (unS n nm o r)
  pr : ∀ (o : Nat) (r : List Tok), prodS n nm o (noR r) = noE id (prodS n nm o r)
  pl : ∀ (o : Nat) (a : Nd) (r : List Tok), prodL n nm o a (noR r) = noE id (prodL n nm o a r)
  su : ∀ (o : Nat) (r : List Tok), sumS n nm o (noR r) = noE id (sumS n nm o r)
  sl : ∀ (o : Nat) (a : Nd) (r : List Tok), sumL n nm o a (noR r) = noE id (sumL n nm o a r)
theorem ex_no (nm : List (List UInt8)) : ∀ n, ExNo n nm
  | 0 => by refine ⟨fun _ _ => ?_, fun _ _ => ?_, fun _ _ _ => ?_, fun _ _ => ?_, fun _ _ _ => ?_⟩ <;> simp [unS, prodS, prodL, sumS, sumL, noE]
  | n + 1 => by
    have ih := ex_no nm n
    refine ⟨fun o r => ?_, fun o r => ?_, fun o a r => ?_, fun o r => ?_, fun o a r => ?_⟩
    · unfold unS
      simp only [is_no, pass_no, kind_no, text_no, at_no, name_no, ih.un, ih.su]
      split
      · rcases unS n nm o (passT r) with e | ⟨a, r1⟩ <;> rfl
      · split
        · rfl
        · split
          · cases varS nm (hereT r).text <;> rfl
          · split
            · rfl
            · split
              · rfl
              · rcases sumS n nm (o + 1) (passT r) with e | ⟨a, r1⟩
                · rfl
                · simp only [noE, is_no, pass_no, at_no, id]
                  split <;> rfl
    · unfold prodS
      simp only [ih.un]
      rcases unS n nm o r with e | ⟨a, r1⟩
      · rfl
      · exact ih.pl o a r1
    · unfold prodL
      simp only [is_no, pass_no, ih.un]
      split
      · rcases unS n nm o (passT r) with e | ⟨b, r1⟩
        · rfl
        · exact ih.pl o _ r1
      · split
        · rcases unS n nm o (passT r) with e | ⟨b, r1⟩
          · rfl
          · exact ih.pl o _ r1
        · split
          · rcases unS n nm o (passT r) with e | ⟨b, r1⟩
            · rfl
            · exact ih.pl o _ r1
          · rfl
    · unfold sumS
      simp only [ih.pr]
      rcases prodS n nm o r with e | ⟨a, r1⟩
      · rfl
      · exact ih.sl o a r1
    · unfold sumL
      simp only [is_no, pass_no, ih.pr]
      split
      · rcases prodS n nm o (passT r) with e | ⟨b, r1⟩
        · rfl
        · exact ih.sl o _ r1
      · split
        · rcases prodS n nm o (passT r) with e | ⟨b, r1⟩
          · rfl
          · exact ih.sl o _ r1
        · rfl
theorem sum_no (n : Nat) (nm : List (List UInt8)) (o : Nat) (r : List Tok) : sumS n nm o (noR r) = noE id (sumS n nm o r) := (ex_no nm n).su o r
theorem cond_no (n : Nat) (nm : List (List UInt8)) (o : Nat) (r : List Tok) : condS n nm o (noR r) = noE id (condS n nm o r) := by
  unfold condS
  simp only [sum_no]
  rcases sumS n nm o r with e | ⟨a, r1⟩
  · rfl
  · simp only [noE, is_no, pass_no, sum_no, must_np, id]
    split
    · rcases sumS n nm o (passT r1) with e | ⟨b, r2⟩ <;> rfl
    · rcases mustS [33, 61] r1 with e | r2
      · rfl
      · simp only [noT, sum_no]
        rcases sumS n nm o r2 with e | ⟨b, r3⟩ <;> rfl

/-! statements without places -/
mutual
def Sm.no : Sm → Sm
  | .set _ v x e => .set start v x e
  | .skip _ => .skip start
  | .stop _ => .stop start
  | .mark _ x => .mark start x
  | .choose _ b => .choose start b.no
  | .loop _ b => .loop start b.no
  | .iff _ l r eq t e => .iff start l r eq t.no e.no
  | .whil _ l r eq b => .whil start l r eq b.no
def Sms.no : Sms → Sms
  | .nil => .nil
  | .cons s r => .cons s.no r.no
def Bls.no : Bls → Bls
  | .nil => .nil
  | .cons _ b r => .cons start b.no r.no
def Els.no : Els → Els
  | .none => .none
  | .some _ b => .some start b.no
end
theorem assign_np (n : Nat) (nm : List (List UInt8)) (o : Nat) (r : List Tok) : assignS n nm o (noR r) = noE Sm.no (assignS n nm o r) := by
  unfold assignS
  simp only [text_no, at_no, pass_no, must_np]
  cases varS nm (hereT r).text with
  | none => rfl
  | some v =>
    simp only
    rcases mustS [58, 61] (passT r) with e | r1
    · rfl
    · simp only [noT, is_no, pass_no, must_np, sum_no]
      split
      · rcases mustS [59] (passT r1) with e | r2 <;> rfl
      · rcases sumS n nm o r1 with e | ⟨a, r2⟩
        · rfl
        · simp only [noE, must_np, id]
          rcases mustS [59] r2 with e | r3 <;> rfl
theorem mark_np (p : Pl) (mk : List (List UInt8)) (r : List Tok) : markS start mk (noR r) = noM Sm.no (markS p mk r) := by
  unfold markS
  simp only [name_no, text_no, at_no, pass_no, must_np]
  split
  · rfl
  · split
    · rfl
    · split
      · rfl
      · rcases mustS [59] (passT r) with e | r1 <;> rfl
structure StNo (n : Nat) (nm : List (List UInt8)) : Prop where
  row : ∀ mk o r, rowS n nm mk o (noR r) = noM Sms.no (rowS n nm mk o r)
  st : ∀ mk o r, stmtS n nm mk o (noR r) = noM (Option.map Sm.no) (stmtS n nm mk o r)
  or' : ∀ mk o r, orS n nm mk o (noR r) = noM Bls.no (orS n nm mk o r)
  bl : ∀ mk o r, blockS n nm mk o (noR r) = noM Sms.no (blockS n nm mk o r)
theorem st_no (nm : List (List UInt8)) : ∀ n, StNo n nm
  | 0 => by refine ⟨fun _ _ _ => ?_, fun _ _ _ => ?_, fun _ _ _ => ?_, fun _ _ _ => ?_⟩ <;> simp [rowS, stmtS, orS, blockS, noM]
  | n + 1 => by
    have ih := st_no nm n
    refine ⟨fun mk o r => ?_, fun mk o r => ?_, fun mk o r => ?_, fun mk o r => ?_⟩
    · unfold rowS
      simp only [kind_no, ih.st]
      split
      · rfl
      · rcases stmtS n nm mk o r with e | ⟨s, mk1, r1⟩
        · rfl
        · cases s with
          | none => rfl
          | some s =>
            simp only [noM, Option.map, ih.row]
            rcases rowS n nm mk1 o r1 with e | ⟨l, mk2, r2⟩ <;> rfl
    · unfold stmtS
      simp only [name_no, is_no, at_no, pass_no, must_np, assign_np, ih.bl, cond_no]
      split
      · rcases assignS n nm o r with e | ⟨s, r1⟩ <;> rfl
      · split
        · rcases mustS [59] (passT r) with e | r1 <;> rfl
        · split
          · rcases mustS [59] (passT r) with e | r1 <;> rfl
          · split
            · rw [mark_np (hereT r).at_]
              rcases markS (hereT r).at_ mk (passT r) with e | ⟨s, mk1, r1⟩ <;> rfl
            · split
              · rcases blockS n nm mk o (passT r) with e | ⟨b, mk1, r1⟩
                · rfl
                · simp only [noM, ih.or']
                  rcases orS n nm mk1 o r1 with e | ⟨bs, mk2, r2⟩ <;> rfl
              · split
                · rcases blockS n nm mk o (passT r) with e | ⟨b, mk1, r1⟩ <;> rfl
                · split
                  · rcases condS n nm o (passT r) with e | ⟨c, r1⟩
                    · rfl
                    · simp only [noE, ih.bl, id]
                      rcases blockS n nm mk o r1 with e | ⟨b, mk1, r2⟩
                      · rfl
                      · simp only [noM, is_no, pass_no, ih.bl, at_no]
                        split
                        · rcases blockS n nm mk1 o (passT r2) with e | ⟨b2, mk2, r3⟩ <;> rfl
                        · rfl
                  · split
                    · rcases condS n nm o (passT r) with e | ⟨c, r1⟩
                      · rfl
                      · simp only [noE, ih.bl, id]
                        rcases blockS n nm mk o r1 with e | ⟨b, mk1, r2⟩ <;> rfl
                    · rfl
    · unfold orS
      simp only [is_no, pass_no, ih.bl, at_no]
      split
      · rcases blockS n nm mk o (passT r) with e | ⟨b, mk1, r1⟩
        · rfl
        · simp only [noM, ih.or']
          rcases orS n nm mk1 o r1 with e | ⟨bs, mk2, r2⟩ <;> rfl
      · rfl
    · unfold blockS
      simp only [into_no]
      rcases intoS [123] o r with e | r1
      · rfl
      · simp only [noT, ih.row]
        rcases rowS n nm mk (o + 1) r1 with e | ⟨l, mk1, r2⟩
        · rfl
        · simp only [noM, must_np]
          rcases mustS [125] r2 with e | r3 <;> rfl
theorem declare_np (nm : List (List UInt8)) (r : List Tok) : declareS nm (noR r) = noE id (declareS nm r) := by
  unfold declareS
  simp only [name_no, text_no, at_no, pass_no, is_no, kind_no]
  repeat' split
  all_goals rfl
theorem decls_no : ∀ (n : Nat) (bs : List Bg) (r : List Tok), declsS n bs (noR r) = noE id (declsS n bs r)
  | 0, _, _ => rfl
  | n + 1, bs, r => by
    unfold declsS
    simp only [is_no, pass_no, declare_np, must_np]
    split
    · rfl
    · split
      · rcases declareS [] r with e | ⟨b, r1⟩
        · rfl
        · exact decls_no n _ r1
      · rcases mustS [44] r with e | r1
        · rfl
        · simp only [noT, declare_np]
          rcases declareS (bs.map Bg.name) r1 with e | ⟨b, r2⟩
          · rfl
          · exact decls_no n _ r2
def Pg.no (g : Pg) : Pg := ⟨start, g.begins, g.body.no⟩
def noG : Except Er Pg → Except Er Pg
  | .error e => .error (e.1, start)
  | .ok g => .ok g.no
theorem prog_no (n : Nat) (r : List Tok) : progS n (noR r) = noG (progS n r) := by
  unfold progS
  simp only [must_np, at_no]
  rcases mustS vars_ r with e | r1
  · rfl
  · simp only [noT, decls_no]
    rcases declsS n [] r1 with e | ⟨bs, r2⟩
    · rfl
    · simp only [noE, id, (st_no _ n).row]
      rcases rowS n (bs.map Bg.name) [] 0 r2 with e | ⟨l, mk, r3⟩
      · rfl
      · simp only [noM, kind_no, at_no]
        split <;> rfl
end Go.Proofs.YtjmjdmmojgmcdaaDoor
