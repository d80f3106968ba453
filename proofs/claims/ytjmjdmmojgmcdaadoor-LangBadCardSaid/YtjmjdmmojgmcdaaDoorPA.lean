/- What is read, where all places ahead of one are taken away: errors behind it keep their places. -/
import Derived.Test.YtjmjdmmojgmcdaaDoorOI
namespace Go.Proofs.YtjmjdmmojgmcdaaDoor
open Go
set_option linter.unusedVariables false
set_option linter.unusedSimpArgs false

/-- places ahead of the N-th byte are taken away -/
def cutP (N : Nat) (p : Pl) : Pl := if p.b < N then start else p
theorem cutP_start (N : Nat) : cutP N start = start := by unfold cutP; split <;> rfl
variable {N : Nat}
/-- a token without its place -/
def mpP (N : Nat) (x : Tok) : Tok := ⟨x.kind, x.text, cutP N x.at_⟩
def mpR (N : Nat) (r : List Tok) : List Tok := r.map (mpP N)
/-- an answer without places -/
def mpE (N : Nat) {α : Type} (f : α → α) : Except Er (α × List Tok) → Except Er (α × List Tok)
  | .error e => .error (e.1, cutP N e.2)
  | .ok (a, r) => .ok (f a, mpR N r)
def mpT (N : Nat) : Except Er (List Tok) → Except Er (List Tok)
  | .error e => .error (e.1, cutP N e.2)
  | .ok r => .ok (mpR N r)
def mpM (N : Nat) {α : Type} (f : α → α) : RS α → RS α
  | .error e => .error (e.1, cutP N e.2)
  | .ok (a, mk, r) => .ok (f a, mk, mpR N r)
theorem here_noP (r : List Tok) : hereT (mpR N r) = mpP N (hereT r) := by
  cases r with
  | nil => simp [mpR, mpP, hereT, cutP_start]
  | cons x r => rfl
theorem pass_noP (r : List Tok) : passT (mpR N r) = mpR N (passT r) := by
  cases r with
  | nil => rfl
  | cons x r => show (if x.kind = 0 then mpP N x :: mpR N r else mpR N r) = mpR N (if x.kind = 0 then x :: r else r); split <;> rfl
theorem kind_noP (r : List Tok) : (hereT (mpR N r)).kind = (hereT r).kind := by rw [here_noP]; rfl
theorem text_noP (r : List Tok) : (hereT (mpR N r)).text = (hereT r).text := by rw [here_noP]; rfl
theorem at_noP (r : List Tok) : (hereT (mpR N r)).at_ = cutP N (hereT r).at_ := by rw [here_noP]; rfl
theorem is_noP (x : List UInt8) (r : List Tok) : isT x (mpR N r) = isT x r := by simp only [isT, kind_noP, text_noP]
theorem name_noP (r : List Tok) : nameS (mpR N r) = nameS r := by simp only [nameS, kind_noP, text_noP]
theorem must_npP (x : List UInt8) (r : List Tok) : mustS x (mpR N r) = mpT N (mustS x r) := by
  unfold mustS; simp only [is_noP, pass_noP, at_noP]; split <;> rfl
theorem into_noP (x : List UInt8) (o : Nat) (r : List Tok) : intoS x o (mpR N r) = mpT N (intoS x o r) := by
  unfold intoS; simp only [kind_noP, text_noP, pass_noP, at_noP]; split
  · rfl
  · split <;> rfl
theorem no_lenP (r : List Tok) : (mpR N r).length = r.length := by simp [mpR]

structure ExNoP (N n : Nat) (nm : List (List UInt8)) : Prop where
  un : ∀ (o : Nat) (r : List Tok), unS n nm o (mpR N r) = mpE N id (unS n nm o r)
  pr : ∀ (o : Nat) (r : List Tok), prodS n nm o (mpR N r) = mpE N id (prodS n nm o r)
  pl : ∀ (o : Nat) (a : Nd) (r : List Tok), prodL n nm o a (mpR N r) = mpE N id (prodL n nm o a r)
  su : ∀ (o : Nat) (r : List Tok), sumS n nm o (mpR N r) = mpE N id (sumS n nm o r)
  sl : ∀ (o : Nat) (a : Nd) (r : List Tok), sumL n nm o a (mpR N r) = mpE N id (sumL n nm o a r)
theorem ex_noP (nm : List (List UInt8)) : ∀ n, ExNoP N n nm
  | 0 => by refine ⟨fun _ _ => ?_, fun _ _ => ?_, fun _ _ _ => ?_, fun _ _ => ?_, fun _ _ _ => ?_⟩ <;> simp [unS, prodS, prodL, sumS, sumL, mpE, cutP_start]
  | n + 1 => by
    have ih := ex_noP nm n
    refine ⟨fun o r => ?_, fun o r => ?_, fun o a r => ?_, fun o r => ?_, fun o a r => ?_⟩
    · unfold unS
      simp only [is_noP, pass_noP, kind_noP, text_noP, at_noP, name_noP, ih.un, ih.su]
      split
      · rcases unS n nm o (passT r) with e | ⟨a, r1⟩ <;> rfl
      · split
        · rfl
        · split
          · cases varS nm (hereT r).text <;> rfl
          · split
            · rfl
            · split
              · rfl
              · rcases sumS n nm (o + 1) (passT r) with e | ⟨a, r1⟩
                · rfl
                · simp only [mpE, is_noP, pass_noP, at_noP, id]
                  split <;> rfl
    · unfold prodS
      simp only [ih.un]
      rcases unS n nm o r with e | ⟨a, r1⟩
      · rfl
      · exact ih.pl o a r1
    · unfold prodL
      simp only [is_noP, pass_noP, ih.un]
      split
      · rcases unS n nm o (passT r) with e | ⟨b, r1⟩
        · rfl
        · exact ih.pl o _ r1
      · split
        · rcases unS n nm o (passT r) with e | ⟨b, r1⟩
          · rfl
          · exact ih.pl o _ r1
        · split
          · rcases unS n nm o (passT r) with e | ⟨b, r1⟩
            · rfl
            · exact ih.pl o _ r1
          · rfl
    · unfold sumS
      simp only [ih.pr]
      rcases prodS n nm o r with e | ⟨a, r1⟩
      · rfl
      · exact ih.sl o a r1
    · unfold sumL
      simp only [is_noP, pass_noP, ih.pr]
      split
      · rcases prodS n nm o (passT r) with e | ⟨b, r1⟩
        · rfl
        · exact ih.sl o _ r1
      · split
        · rcases prodS n nm o (passT r) with e | ⟨b, r1⟩
          · rfl
          · exact ih.sl o _ r1
        · rfl
theorem sum_noP (n : Nat) (nm : List (List UInt8)) (o : Nat) (r : List Tok) : sumS n nm o (mpR N r) = mpE N id (sumS n nm o r) := (ex_noP nm n).su o r
theorem cond_noP (n : Nat) (nm : List (List UInt8)) (o : Nat) (r : List Tok) : condS n nm o (mpR N r) = mpE N id (condS n nm o r) := by
  unfold condS
  simp only [sum_noP]
  rcases sumS n nm o r with e | ⟨a, r1⟩
  · rfl
  · simp only [mpE, is_noP, pass_noP, sum_noP, must_npP, id]
    split
    · rcases sumS n nm o (passT r1) with e | ⟨b, r2⟩ <;> rfl
    · rcases mustS [33, 61] r1 with e | r2
      · rfl
      · simp only [mpT, sum_noP]
        rcases sumS n nm o r2 with e | ⟨b, r3⟩ <;> rfl

/-! statements without places -/
mutual
def Sm.mp (N : Nat) : Sm → Sm
  | .set p v x e => .set (cutP N p) v x e
  | .skip p => .skip (cutP N p)
  | .stop p => .stop (cutP N p)
  | .mark p x => .mark (cutP N p) x
  | .choose p b => .choose (cutP N p) (b.mp N)
  | .loop p b => .loop (cutP N p) (b.mp N)
  | .iff p l r eq t e => .iff (cutP N p) l r eq (t.mp N) (e.mp N)
  | .whil p l r eq b => .whil (cutP N p) l r eq (b.mp N)
def Sms.mp (N : Nat) : Sms → Sms
  | .nil => .nil
  | .cons s r => .cons (s.mp N) (r.mp N)
def Bls.mp (N : Nat) : Bls → Bls
  | .nil => .nil
  | .cons p b r => .cons (cutP N p) (b.mp N) (r.mp N)
def Els.mp (N : Nat) : Els → Els
  | .none => .none
  | .some p b => .some (cutP N p) (b.mp N)
end
theorem assign_npP (n : Nat) (nm : List (List UInt8)) (o : Nat) (r : List Tok) : assignS n nm o (mpR N r) = mpE N (Sm.mp N) (assignS n nm o r) := by
  unfold assignS
  simp only [text_noP, at_noP, pass_noP, must_npP]
  cases varS nm (hereT r).text with
  | none => rfl
  | some v =>
    simp only
    rcases mustS [58, 61] (passT r) with e | r1
    · rfl
    · simp only [mpT, is_noP, pass_noP, must_npP, sum_noP]
      split
      · rcases mustS [59] (passT r1) with e | r2 <;> rfl
      · rcases sumS n nm o r1 with e | ⟨a, r2⟩
        · rfl
        · simp only [mpE, must_npP, id]
          rcases mustS [59] r2 with e | r3 <;> rfl
theorem mark_npP (p : Pl) (mk : List (List UInt8)) (r : List Tok) : markS (cutP N p) mk (mpR N r) = mpM N (Sm.mp N) (markS p mk r) := by
  unfold markS
  simp only [name_noP, text_noP, at_noP, pass_noP, must_npP]
  split
  · rfl
  · split
    · rfl
    · split
      · rfl
      · rcases mustS [59] (passT r) with e | r1 <;> rfl
structure StNoP (N n : Nat) (nm : List (List UInt8)) : Prop where
  row : ∀ mk o r, rowS n nm mk o (mpR N r) = mpM N (Sms.mp N) (rowS n nm mk o r)
  st : ∀ mk o r, stmtS n nm mk o (mpR N r) = mpM N (Option.map (Sm.mp N)) (stmtS n nm mk o r)
  or' : ∀ mk o r, orS n nm mk o (mpR N r) = mpM N (Bls.mp N) (orS n nm mk o r)
  bl : ∀ mk o r, blockS n nm mk o (mpR N r) = mpM N (Sms.mp N) (blockS n nm mk o r)
theorem st_noP (nm : List (List UInt8)) : ∀ n, StNoP N n nm
  | 0 => by refine ⟨fun _ _ _ => ?_, fun _ _ _ => ?_, fun _ _ _ => ?_, fun _ _ _ => ?_⟩ <;> simp [rowS, stmtS, orS, blockS, mpM, cutP_start]
  | n + 1 => by
    have ih := st_noP nm n
    refine ⟨fun mk o r => ?_, fun mk o r => ?_, fun mk o r => ?_, fun mk o r => ?_⟩
    · unfold rowS
      simp only [kind_noP, ih.st]
      split
      · rfl
      · rcases stmtS n nm mk o r with e | ⟨s, mk1, r1⟩
        · rfl
        · cases s with
          | none => rfl
          | some s =>
            simp only [mpM, Option.map, ih.row]
            rcases rowS n nm mk1 o r1 with e | ⟨l, mk2, r2⟩ <;> rfl
    · unfold stmtS
      simp only [name_noP, is_noP, at_noP, pass_noP, must_npP, assign_npP, ih.bl, cond_noP]
      split
      · rcases assignS n nm o r with e | ⟨s, r1⟩ <;> rfl
      · split
        · rcases mustS [59] (passT r) with e | r1 <;> rfl
        · split
          · rcases mustS [59] (passT r) with e | r1 <;> rfl
          · split
            · rw [mark_npP (hereT r).at_]
              rcases markS (hereT r).at_ mk (passT r) with e | ⟨s, mk1, r1⟩ <;> rfl
            · split
              · rcases blockS n nm mk o (passT r) with e | ⟨b, mk1, r1⟩
                · rfl
                · simp only [mpM, ih.or']
                  rcases orS n nm mk1 o r1 with e | ⟨bs, mk2, r2⟩ <;> rfl
              · split
                · rcases blockS n nm mk o (passT r) with e | ⟨b, mk1, r1⟩ <;> rfl
                · split
                  · rcases condS n nm o (passT r) with e | ⟨c, r1⟩
                    · rfl
                    · simp only [mpE, ih.bl, id]
                      rcases blockS n nm mk o r1 with e | ⟨b, mk1, r2⟩
                      · rfl
                      · simp only [mpM, is_noP, pass_noP, ih.bl, at_noP]
                        split
                        · rcases blockS n nm mk1 o (passT r2) with e | ⟨b2, mk2, r3⟩ <;> rfl
                        · rfl
                  · split
                    · rcases condS n nm o (passT r) with e | ⟨c, r1⟩
                      · rfl
                      · simp only [mpE, ih.bl, id]
                        rcases blockS n nm mk o r1 with e | ⟨b, mk1, r2⟩ <;> rfl
                    · rfl
    · unfold orS
      simp only [is_noP, pass_noP, ih.bl, at_noP]
      split
      · rcases blockS n nm mk o (passT r) with e | ⟨b, mk1, r1⟩
        · rfl
        · simp only [mpM, ih.or']
          rcases orS n nm mk1 o r1 with e | ⟨bs, mk2, r2⟩ <;> rfl
      · rfl
    · unfold blockS
      simp only [into_noP]
      rcases intoS [123] o r with e | r1
      · rfl
      · simp only [mpT, ih.row]
        rcases rowS n nm mk (o + 1) r1 with e | ⟨l, mk1, r2⟩
        · rfl
        · simp only [mpM, must_npP]
          rcases mustS [125] r2 with e | r3 <;> rfl
theorem declare_npP (nm : List (List UInt8)) (r : List Tok) : declareS nm (mpR N r) = mpE N id (declareS nm r) := by
  unfold declareS
  simp only [name_noP, text_noP, at_noP, pass_noP, is_noP, kind_noP]
  repeat' split
  all_goals rfl
theorem decls_noP : ∀ (n : Nat) (bs : List Bg) (r : List Tok), declsS n bs (mpR N r) = mpE N id (declsS n bs r)
  | 0, _, _ => by simp [declsS, mpE, cutP_start]
  | n + 1, bs, r => by
    unfold declsS
    simp only [is_noP, pass_noP, declare_npP, must_npP]
    split
    · rfl
    · split
      · rcases declareS [] r with e | ⟨b, r1⟩
        · rfl
        · exact decls_noP n _ r1
      · rcases mustS [44] r with e | r1
        · rfl
        · simp only [mpT, declare_npP]
          rcases declareS (bs.map Bg.name) r1 with e | ⟨b, r2⟩
          · rfl
          · exact decls_noP n _ r2
def Pg.mp (N : Nat) (g : Pg) : Pg := ⟨cutP N g.at_, g.begins, g.body.mp N⟩
def mpG (N : Nat) : Except Er Pg → Except Er Pg
  | .error e => .error (e.1, cutP N e.2)
  | .ok g => .ok (g.mp N)
theorem prog_noP (n : Nat) (r : List Tok) : progS n (mpR N r) = mpG N (progS n r) := by
  unfold progS
  simp only [must_npP, at_noP]
  rcases mustS vars_ r with e | r1
  · rfl
  · simp only [mpT, decls_noP]
    rcases declsS n [] r1 with e | ⟨bs, r2⟩
    · rfl
    · simp only [mpE, id, (st_noP _ n).row]
      rcases rowS n (bs.map Bg.name) [] 0 r2 with e | ⟨l, mk, r3⟩
      · rfl
      · simp only [mpM, kind_noP, at_noP]
        split <;> rfl
end Go.Proofs.YtjmjdmmojgmcdaaDoor
