/- What is read hangs on the tokens' kinds and texts alone, but for places; Tokens written with other signs and other blanks: they are scanned as the same; and read as the same program, but for places. -/
import Derived.Test.YtlklijpjacmgpaaGreatDoorMD
import Derived.Test.YtlklijpjacmgpaaGreatDoorGg
namespace Go.Proofs.YtlklijpjacmgpaaGreatDoor
open Go
set_option linter.unusedVariables false
set_option linter.unusedSimpArgs false

/-- a token without its place -/
def noP (x : Tok) : Tok := ⟨x.kind, x.text, start⟩
def noR (r : List Tok) : List Tok := r.map noP
/-- an answer without places -/
def noE {α : Type} (f : α → α) : Except Er (α × List Tok) → Except Er (α × List Tok)
  | .error e => .error (e.1, start)
  | .ok (a, r) => .ok (f a, noR r)
def noT : Except Er (List Tok) → Except Er (List Tok)
  | .error e => .error (e.1, start)
  | .ok r => .ok (noR r)
def noM {α : Type} (f : α → α) : RS α → RS α
  | .error e => .error (e.1, start)
  | .ok (a, mk, r) => .ok (f a, mk, noR r)
theorem here_no (r : List Tok) : hereT (noR r) = noP (hereT r) := by cases r <;> rfl
theorem pass_no (r : List Tok) : passT (noR r) = noR (passT r) := by
  cases r with
  | nil => rfl
  | cons x r => show (if x.kind = 0 then noP x :: noR r else noR r) = noR (if x.kind = 0 then x :: r else r); split <;> rfl
theorem kind_no (r : List Tok) : (hereT (noR r)).kind = (hereT r).kind := by rw [here_no]; rfl
theorem text_no (r : List Tok) : (hereT (noR r)).text = (hereT r).text := by rw [here_no]; rfl
theorem at_no (r : List Tok) : (hereT (noR r)).at_ = start := by rw [here_no]; rfl
theorem is_no (x : List UInt8) (r : List Tok) : isT x (noR r) = isT x r := by simp only [isT, kind_no, text_no]
theorem name_no (r : List Tok) : nameS (noR r) = nameS r := by simp only [nameS, kind_no, text_no]
theorem must_np (x : List UInt8) (r : List Tok) : mustS x (noR r) = noT (mustS x r) := by
  unfold mustS; simp only [is_no, pass_no, at_no]; split <;> rfl
theorem into_no (x : List UInt8) (o : Nat) (r : List Tok) : intoS x o (noR r) = noT (intoS x o r) := by
  unfold intoS; simp only [kind_no, text_no, pass_no, at_no]; split
  · rfl
  · split <;> rfl
theorem no_len (r : List Tok) : (noR r).length = r.length := by simp [noR]

structure ExNo (n : Nat) (nm : List (List UInt8)) : Prop where
  un : ∀ (o : Nat) (r : List Tok), unS n nm o (noR r) = noE id (unS n nm o r)
  pr : ∀ (o : Nat) (r : List Tok), prodS n nm o (noR r) = noE id (prodS n nm o r)
  pl : ∀ (o : Nat) (a : Nd) (r : List Tok), prodL n nm o a (noR r) = noE id (prodL n nm o a r)
  su : ∀ (o : Nat) (r : List Tok), sumS n nm o (noR r) = noE id (sumS n nm o r)
  sl : ∀ (o : Nat) (a : Nd) (r : List Tok), sumL n nm o a (noR r) = noE id (sumL n nm o a r)
theorem ex_no (nm : List (List UInt8)) : ∀ n, ExNo n nm
  | 0 => by refine ⟨fun _ _ => ?_, fun _ _ => ?_, fun _ _ _ => ?_, fun _ _ => ?_, fun _ _ _ => ?_⟩ <;> simp [unS, prodS, prodL, sumS, sumL, noE]
  | n + 1 => by
    have ih := ex_no nm n
    refine ⟨fun o r => ?_, fun o r => ?_, fun o a r => ?_, fun o r => ?_, fun o a r => ?_⟩
    · unfold unS
      simp only [is_no, pass_no, kind_no, text_no, at_no, name_no, ih.un, ih.su]
      split
      · rcases unS n nm o (passT r) with e | ⟨a, r1⟩ <;> rfl
      · split
        · rfl
        · split
          · cases varS nm (hereT r).text <;> rfl
          · split
            · rfl
            · split
              · rfl
              · rcases sumS n nm (o + 1) (passT r) with e | ⟨a, r1⟩
                · rfl
                · simp only [noE, is_no, pass_no, at_no, id]
                  split <;> rfl
    · unfold prodS
      simp only [ih.un]
      rcases unS n nm o r with e | ⟨a, r1⟩
      · rfl
      · exact ih.pl o a r1
    · unfold prodL
      simp only [is_no, pass_no, ih.un]
      split
      · rcases unS n nm o (passT r) with e | ⟨b, r1⟩
        · rfl
        · exact ih.pl o _ r1
      · split
        · rcases unS n nm o (passT r) with e | ⟨b, r1⟩
          · rfl
          · exact ih.pl o _ r1
        · split
          · rcases unS n nm o (passT r) with e | ⟨b, r1⟩
            · rfl
            · exact ih.pl o _ r1
          · rfl
    · unfold sumS
      simp only [ih.pr]
      rcases prodS n nm o r with e | ⟨a, r1⟩
      · rfl
      · exact ih.sl o a r1
    · unfold sumL
      simp only [is_no, pass_no, ih.pr]
      split
      · rcases prodS n nm o (passT r) with e | ⟨b, r1⟩
        · rfl
        · exact ih.sl o _ r1
      · split
        · rcases prodS n nm o (passT r) with e | ⟨b, r1⟩
          · rfl
          · exact ih.sl o _ r1
        · rfl
theorem sum_no (n : Nat) (nm : List (List UInt8)) (o : Nat) (r : List Tok) : sumS n nm o (noR r) = noE id (sumS n nm o r) := (ex_no nm n).su o r
theorem cond_no (n : Nat) (nm : List (List UInt8)) (o : Nat) (r : List Tok) : condS n nm o (noR r) = noE id (condS n nm o r) := by
  unfold condS
  simp only [sum_no]
  rcases sumS n nm o r with e | ⟨a, r1⟩
  · rfl
  · simp only [noE, is_no, pass_no, sum_no, must_np, id]
    split
    · rcases sumS n nm o (passT r1) with e | ⟨b, r2⟩ <;> rfl
    · rcases mustS [33, 61] r1 with e | r2
      · rfl
      · simp only [noT, sum_no]
        rcases sumS n nm o r2 with e | ⟨b, r3⟩ <;> rfl

/-! statements without places -/
mutual
def Sm.no : Sm → Sm
  | .set _ v x e => .set start v x e
  | .skip _ => .skip start
  | .stop _ => .stop start
  | .mark _ x => .mark start x
  | .choose _ b => .choose start b.no
  | .loop _ b => .loop start b.no
  | .iff _ l r eq t e => .iff start l r eq t.no e.no
  | .whil _ l r eq b => .whil start l r eq b.no
def Sms.no : Sms → Sms
  | .nil => .nil
  | .cons s r => .cons s.no r.no
def Bls.no : Bls → Bls
  | .nil => .nil
  | .cons _ b r => .cons start b.no r.no
def Els.no : Els → Els
  | .none => .none
  | .some _ b => .some start b.no
end
theorem assign_np (n : Nat) (nm : List (List UInt8)) (o : Nat) (r : List Tok) : assignS n nm o (noR r) = noE Sm.no (assignS n nm o r) := by
  unfold assignS
  simp only [text_no, at_no, pass_no, must_np]
  cases varS nm (hereT r).text with
  | none => rfl
  | some v =>
    simp only
    rcases mustS [58, 61] (passT r) with e | r1
    · rfl
    · simp only [noT, is_no, pass_no, must_np, sum_no]
      split
      · rcases mustS [59] (passT r1) with e | r2 <;> rfl
      · rcases sumS n nm o r1 with e | ⟨a, r2⟩
        · rfl
        · simp only [noE, must_np, id]
          rcases mustS [59] r2 with e | r3 <;> rfl
theorem mark_np (p : Pl) (mk : List (List UInt8)) (r : List Tok) : markS start mk (noR r) = noM Sm.no (markS p mk r) := by
  unfold markS
  simp only [name_no, text_no, at_no, pass_no, must_np]
  split
  · rfl
  · split
    · rfl
    · split
      · rfl
      · rcases mustS [59] (passT r) with e | r1 <;> rfl
structure StNo (n : Nat) (nm : List (List UInt8)) : Prop where
  row : ∀ mk o r, rowS n nm mk o (noR r) = noM Sms.no (rowS n nm mk o r)
  st : ∀ mk o r, stmtS n nm mk o (noR r) = noM (Option.map Sm.no) (stmtS n nm mk o r)
  or' : ∀ mk o r, orS n nm mk o (noR r) = noM Bls.no (orS n nm mk o r)
  bl : ∀ mk o r, blockS n nm mk o (noR r) = noM Sms.no (blockS n nm mk o r)
theorem st_no (nm : List (List UInt8)) : ∀ n, StNo n nm
  | 0 => by refine ⟨fun _ _ _ => ?_, fun _ _ _ => ?_, fun _ _ _ => ?_, fun _ _ _ => ?_⟩ <;> simp [rowS, stmtS, orS, blockS, noM]
  | n + 1 => by
    have ih := st_no nm n
    refine ⟨fun mk o r => ?_, fun mk o r => ?_, fun mk o r => ?_, fun mk o r => ?_⟩
    · unfold rowS
      simp only [kind_no, ih.st]
      split
      · rfl
      · rcases stmtS n nm mk o r with e | ⟨s, mk1, r1⟩
        · rfl
        · cases s with
          | none => rfl
          | some s =>
            simp only [noM, Option.map, ih.row]
            rcases rowS n nm mk1 o r1 with e | ⟨l, mk2, r2⟩ <;> rfl
    · unfold stmtS
      simp only [name_no, is_no, at_no, pass_no, must_np, assign_np, ih.bl, cond_no]
      split
      · rcases assignS n nm o r with e | ⟨s, r1⟩ <;> rfl
      · split
        · rcases mustS [59] (passT r) with e | r1 <;> rfl
        · split
          · rcases mustS [59] (passT r) with e | r1 <;> rfl
          · split
            · rw [mark_np (hereT r).at_]
              rcases markS (hereT r).at_ mk (passT r) with e | ⟨s, mk1, r1⟩ <;> rfl
            · split
              · rcases blockS n nm mk o (passT r) with e | ⟨b, mk1, r1⟩
                · rfl
                · simp only [noM, ih.or']
                  rcases orS n nm mk1 o r1 with e | ⟨bs, mk2, r2⟩ <;> rfl
              · split
                · rcases blockS n nm mk o (passT r) with e | ⟨b, mk1, r1⟩ <;> rfl
                · split
                  · rcases condS n nm o (passT r) with e | ⟨c, r1⟩
                    · rfl
                    · simp only [noE, ih.bl, id]
                      rcases blockS n nm mk o r1 with e | ⟨b, mk1, r2⟩
                      · rfl
                      · simp only [noM, is_no, pass_no, ih.bl, at_no]
                        split
                        · rcases blockS n nm mk1 o (passT r2) with e | ⟨b2, mk2, r3⟩ <;> rfl
                        · rfl
                  · split
                    · rcases condS n nm o (passT r) with e | ⟨c, r1⟩
                      · rfl
                      · simp only [noE, ih.bl, id]
                        rcases blockS n nm mk o r1 with e | ⟨b, mk1, r2⟩ <;> rfl
                    · rfl
    · unfold orS
      simp only [is_no, pass_no, ih.bl, at_no]
      split
      · rcases blockS n nm mk o (passT r) with e | ⟨b, mk1, r1⟩
        · rfl
        · simp only [noM, ih.or']
          rcases orS n nm mk1 o r1 with e | ⟨bs, mk2, r2⟩ <;> rfl
      · rfl
    · unfold blockS
      simp only [into_no]
      rcases intoS [123] o r with e | r1
      · rfl
      · simp only [noT, ih.row]
        rcases rowS n nm mk (o + 1) r1 with e | ⟨l, mk1, r2⟩
        · rfl
        · simp only [noM, must_np]
          rcases mustS [125] r2 with e | r3 <;> rfl
theorem declare_np (nm : List (List UInt8)) (r : List Tok) : declareS nm (noR r) = noE id (declareS nm r) := by
  unfold declareS
  simp only [name_no, text_no, at_no, pass_no, is_no, kind_no]
  repeat' split
  all_goals rfl
theorem decls_no : ∀ (n : Nat) (bs : List Bg) (r : List Tok), declsS n bs (noR r) = noE id (declsS n bs r)
  | 0, _, _ => rfl
  | n + 1, bs, r => by
    unfold declsS
    simp only [is_no, pass_no, declare_np, must_np]
    split
    · rfl
    · split
      · rcases declareS [] r with e | ⟨b, r1⟩
        · rfl
        · exact decls_no n _ r1
      · rcases mustS [44] r with e | r1
        · rfl
        · simp only [noT, declare_np]
          rcases declareS (bs.map Bg.name) r1 with e | ⟨b, r2⟩
          · rfl
          · exact decls_no n _ r2
def Pg.no (g : Pg) : Pg := ⟨start, g.begins, g.body.no⟩
def noG : Except Er Pg → Except Er Pg
  | .error e => .error (e.1, start)
  | .ok g => .ok g.no
theorem prog_no (n : Nat) (r : List Tok) : progS n (noR r) = noG (progS n r) := by
  unfold progS
  simp only [must_np, at_no]
  rcases mustS vars_ r with e | r1
  · rfl
  · simp only [noT, decls_no]
    rcases declsS n [] r1 with e | ⟨bs, r2⟩
    · rfl
    · simp only [noE, id, (st_no _ n).row]
      rcases rowS n (bs.map Bg.name) [] 0 r2 with e | ⟨l, mk, r3⟩
      · rfl
      · simp only [noM, kind_no, at_no]
        split <;> rfl
end Go.Proofs.YtlklijpjacmgpaaGreatDoor

namespace Go.Proofs.YtlklijpjacmgpaaGreatDoor
open Go
set_option linter.unusedVariables false
set_option linter.unusedSimpArgs false

/-- what parts two tokens -/
structure Sep (W : List Nat) : Prop where
  skip : ∀ Z, skipC false (W ++ Z) = skipC false Z
  head : ∃ z r, W = z :: r ∧ part z = false
  ok : ∀ d ∈ W, okc d = true
abbrev Pc := (Int × List UInt8) × List Nat × List Nat
def pcT (q : Pc) : List Nat := q.2.1 ++ q.2.2
theorem sc_seps : ∀ (L : List Pc), (∀ q ∈ L, Piece q.1.1 q.1.2 q.2.1 ∧ Sep q.2.2) → ∀ (W : List Nat), skipC false W = [] → ∀ pre : List Nat,
    ∃ l, SC pre (L.flatMap pcT ++ W) l ∧ l.map Tok.kt = L.map (·.1) ++ [(0, [])]
  | [], h, W, hW, pre => ⟨_, .done (by simpa using hW), rfl⟩
  | q :: L, h, W, hW, pre => by
    obtain ⟨⟨⟨c, r, hX, hc⟩, hok, htk⟩, hsep⟩ := h q (by simp)
    have e : (q :: L).flatMap pcT ++ W = q.2.1 ++ (q.2.2 ++ (L.flatMap pcT ++ W)) := by simp [pcT]
    rw [e]
    have ht := htk (q.2.2 ++ (L.flatMap pcT ++ W)) (fun z hz => by
      obtain ⟨z0, r0, h0, hp⟩ := hsep.head
      rw [h0] at hz; simp at hz; subst hz; exact hp)
    have hs : skipC false (q.2.1 ++ (q.2.2 ++ (L.flatMap pcT ++ W))) = q.2.1 ++ (q.2.2 ++ (L.flatMap pcT ++ W)) := by rw [hX]; exact skipC_head hc _
    obtain ⟨l1, h1, h2⟩ := sc_seps L (fun q hq => h q (by simp [hq])) W hW []
    obtain ⟨l2, h3, h4⟩ := sc_skip h1 (hsep.skip _) (pre ++ skipped (q.2.1 ++ (q.2.2 ++ (L.flatMap pcT ++ W))) ++ (q.2.1 ++ (q.2.2 ++ (L.flatMap pcT ++ W))).take q.2.1.length)
    generalize hY : q.2.2 ++ (L.flatMap pcT ++ W) = Y at *
    have hd : (q.2.1 ++ Y).drop q.2.1.length = Y := List.drop_left
    refine ⟨⟨q.1.1, q.1.2, along start (pre ++ skipped (q.2.1 ++ Y))⟩ :: l2, ?_, ?_⟩
    · rw [hX] at hs ht h3 hd ⊢
      refine SC.step (c := c) (r := r ++ Y) hs ht ?_
      change SC _ (((c :: r) ++ Y).drop (c :: r).length) l2
      rw [hd]
      exact h3
    · simp [Tok.kt, h4, h2]

/-- what is put behind a token -/
def sepC : Nat → List Nat
  | 0 => [32]
  | 1 => [9]
  | 2 => [10]
  | 3 => [32, 35, 32, 97, 110, 100, 59, 32, 115, 111, 32, 125, 10]
  | _ => [12288]
def sepT (j : Nat) : List UInt8 := (sepC j).flatMap enc
theorem skip_one {b : Nat} (h : cls b = 1 ∨ b = 10) (Z : List Nat) : skipC false ([b] ++ Z) = skipC false Z := by
  rcases h with h | h
  · exact skipC_blank h Z
  · subst h; simp [skipC]
theorem sep_one {b : Nat} (h : cls b = 1 ∨ b = 10) (hp : part b = false) (hk : okc b = true) : Sep [b] := ⟨skip_one h, ⟨b, [], rfl, hp⟩, by simpa using hk⟩
theorem sepC_ok (j : Nat) : Sep (sepC j) := by
  unfold sepC
  split
  · exact sep_one (Or.inl (by decide)) (by decide) (by decide)
  · exact sep_one (Or.inl (by decide)) (by decide) (by decide)
  · exact sep_one (Or.inr rfl) (by decide) (by decide)
  · refine ⟨fun Z => ?_, ⟨32, _, rfl, by decide⟩, by decide⟩
    have e1 : ([32, 35, 32, 97, 110, 100, 59, 32, 115, 111, 32, 125, 10] : List Nat) ++ Z = 32 :: 35 :: ([32, 97, 110, 100, 59, 32, 115, 111, 32, 125] ++ (10 :: Z)) := by simp
    rw [e1, skipC_blank (by decide)]
    have h6 : cls (35 : Nat) = 6 := by decide
    have e2 : ∀ r : List Nat, skipC false (35 :: r) = skipC true r := fun r => by
      simp only [skipC]
      rw [if_neg (by omega), if_pos h6]
    rw [e2, skip_com _ (by decide)]
    simp [skipC]
  · exact sep_one (Or.inl (by decide)) (by decide) (by decide)
/-- a token in another sign -/
def altW (b : Bool) (k : Int) (x : List UInt8) : List UInt8 := if b then alt false k x else x
def writtenT (f : Nat → Bool) (g : Nat → Nat) : Nat → List Tok → List UInt8
  | _, [] => []
  | i, x :: r => altW (f i) x.kind x.text ++ sepT (g i) ++ writtenT f g (i + 1) r
theorem tk_altW {c : Nat} {r : List Nat} {k : Int} {x : List UInt8} {m : Nat} (h : tk (c :: r) = .ok k x m) (hok : ∀ d ∈ c :: r, okc d = true) (b : Bool) : ∃ X, Piece k x X ∧ X.flatMap enc = altW b k x := by
  cases b with
  | true => exact tk_alt h hok false
  | false => exact tk_again h hok
theorem sc_written (f : Nat → Bool) (g : Nat → Nat) {pre cs : List Nat} {l : List Tok} (h : SC pre cs l) : (∀ c ∈ cs, okc c = true) → ∀ i, ∃ (L : List Pc) (W : List Nat), (∀ q ∈ L, Piece q.1.1 q.1.2 q.2.1 ∧ Sep q.2.2) ∧ Sep W ∧ l.map Tok.kt = L.map (·.1) ++ [(0, [])] ∧ writtenT f g i l = (L.flatMap pcT ++ W).flatMap enc := by
  induction h with
  | done h => exact fun hok i => ⟨[], sepC (g i), by simp, sepC_ok _, rfl, by simp [writtenT, altW, alt, sepT]⟩
  | @step pre cs c r k x m l h ht hl ih =>
    intro hok i
    have hok2 := drop_ok hok h
    obtain ⟨L, W, h1, hW, h2, h3⟩ := ih (fun d hd => hok2 d (List.mem_of_mem_drop hd)) (i + 1)
    obtain ⟨X, hX, hx⟩ := tk_altW ht hok2 (f i)
    refine ⟨((k, x), X, sepC (g i)) :: L, W, ?_, hW, ?_, ?_⟩
    · intro q hq
      rcases List.mem_cons.1 hq with rfl | hq
      · exact ⟨hX, sepC_ok _⟩
      · exact h1 q hq
    · simp [Tok.kt, h2]
    · simp only [writtenT, List.flatMap_cons, List.flatMap_append, hx, h3, sepT, pcT, List.append_assoc]
theorem pcs_ok : ∀ (L : List Pc), (∀ q ∈ L, Piece q.1.1 q.1.2 q.2.1 ∧ Sep q.2.2) → ∀ c ∈ L.flatMap pcT, okc c = true := by
  intro L h c hc
  rw [List.mem_flatMap] at hc
  obtain ⟨q, hq, hc⟩ := hc
  rcases List.mem_append.1 hc with hc | hc
  · exact (h q hq).1.ok c hc
  · exact (h q hq).2.ok c hc
theorem written_law (f : Nat → Bool) (g : Nat → Nat) {l : List UInt8} {toks : List Tok} (h : scanS l = .ok toks) (hs : (writtenT f g 0 toks).length ≤ 4096) : ∃ l', scanS (writtenT f g 0 toks) = .ok l' ∧ l'.map Tok.kt = toks.map Tok.kt := by
  obtain ⟨_, h2, h3⟩ := scanS_ok h
  obtain ⟨L, W, q1, qW, q2, q3⟩ := sc_written f g h3 (txt_of l).ok 0
  have hW : skipC false W = [] := by have := qW.skip []; simpa [skipC] using this
  obtain ⟨l', r1, r2⟩ := sc_seps L q1 W hW []
  refine ⟨l', scanS_mk hs q3 ?_ r1, by rw [r2, q2]⟩
  intro c hc
  rcases List.mem_append.1 hc with hc | hc
  · exact pcs_ok L q1 c hc
  · exact qW.ok c hc

/-! reading -/
theorem no_kt {r r' : List Tok} (h : r.map Tok.kt = r'.map Tok.kt) : noR r = noR r' := by
  have e : ∀ l : List Tok, noR l = (l.map Tok.kt).map fun p => ⟨p.1, p.2, start⟩ := fun l => by simp [noR, noP, Tok.kt]
  rw [e, e, h]
theorem parse_kt {s s' : List UInt8} {r r' : List Tok} (h : scanS s = .ok r) (h' : scanS s' = .ok r') (hk : r'.map Tok.kt = r.map Tok.kt) {g : Pg} (hg : parseS s = .ok g) : ∃ g', parseS s' = .ok g' ∧ g'.no = g.no := by
  unfold parseS at hg ⊢
  rw [h] at hg
  rw [h']
  simp only at hg ⊢
  have hl : r'.length = r.length := by have := congrArg List.length hk; simpa using this
  have e := prog_no (8 * r.length + 10) r
  have e' := prog_no (8 * r.length + 10) r'
  rw [no_kt hk, e, hg] at e'
  rw [hl]
  revert e'
  rcases progS (8 * r.length + 10) r' with e | g'
  · intro h; cases h
  · intro h; exact ⟨g', rfl, (Except.ok.inj h).symm⟩
theorem hd_no (s : Sm) : hdS s.no = hdS s := by
  cases s with
  | set p v x e => cases e <;> rfl
  | _ => rfl
theorem bls_no_nil {b : Bls} : b.no = .nil ↔ b = .nil := by cases b <;> simp [Bls.no]
mutual
theorem prSm_no (ah : List UInt8) : ∀ s : Sm, prSm ah s.no = prSm ah s
  | .set p v x e => by have := hd_no (.set p v x e); simp only [Sm.no] at this ⊢; simp only [prSm, this]
  | .skip p => rfl
  | .stop p => rfl
  | .mark p x => rfl
  | .choose p .nil => rfl
  | .choose p (.cons q b r) => by simp only [Sm.no, Bls.no, prSm, prSms_no (ah ++ [32, 32]) b, prBl_no ah 1 r]
  | .loop p b => by simp only [Sm.no, prSm, prSms_no (ah ++ [32, 32]) b]
  | .iff p l r eq t e => by
    have := hd_no (.iff p l r eq t e)
    simp only [Sm.no] at this
    simp only [Sm.no, prSm, this, prSms_no (ah ++ [32, 32]) t, prEl_no ah e]
  | .whil p l r eq b => by
    have := hd_no (.whil p l r eq b)
    simp only [Sm.no] at this
    simp only [Sm.no, prSm, this, prSms_no (ah ++ [32, 32]) b]
theorem prSms_no (ah : List UInt8) : ∀ s : Sms, prSms ah s.no = prSms ah s
  | .nil => rfl
  | .cons s r => by simp only [Sms.no, prSms, prSm_no ah s, prSms_no ah r]
theorem prBl_no (ah : List UInt8) (j : Nat) : ∀ s : Bls, prBl ah j s.no = prBl ah j s
  | .nil => rfl
  | .cons p b r => by simp only [Bls.no, prBl, prSms_no (ah ++ [32, 32]) b, prBl_no ah (j + 1) r]
theorem prEl_no (ah : List UInt8) : ∀ s : Els, prEl ah s.no = prEl ah s
  | .none => rfl
  | .some p b => by simp only [Els.no, prEl, prSms_no (ah ++ [32, 32]) b]
end
theorem pg_no (g : Pg) : pgS g.no = pgS g := by unfold pgS; simp only [Pg.no, prSms_no]
theorem pg_same {g g' : Pg} (h : g'.no = g.no) : pgS g' = pgS g := by rw [← pg_no g', h, pg_no]
end Go.Proofs.YtlklijpjacmgpaaGreatDoor
