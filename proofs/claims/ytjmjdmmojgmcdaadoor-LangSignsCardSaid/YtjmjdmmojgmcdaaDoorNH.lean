/- Tokens written with other signs and other blanks: they are scanned as the same; and read as the same program, but for places. -/
import Derived.Test.YtjmjdmmojgmcdaaDoorNG
import Derived.Test.YtjmjdmmojgmcdaaDoorGg
namespace Go.Proofs.YtjmjdmmojgmcdaaDoor
open Go
set_option linter.unusedVariables false
set_option linter.unusedSimpArgs false

/-- what parts two tokens -/
structure Sep (W : List Nat) : Prop where
  skip : ∀ Z, skipC false (W ++ Z) = skipC false Z
  head : ∃ z r, W = z :: r ∧ part z = false
  ok : ∀ d ∈ W, okc d = true
abbrev Pc := (Int × List UInt8) × List Nat × List Nat
def pcT (q : Pc) : List Nat := q.2.1 ++ q.2.2
theorem sc_seps : ∀ (L : List Pc), (∀ q ∈ L, Piece q.1.1 q.1.2 q.2.1 ∧ Sep q.2.2) → ∀ (W : List Nat), skipC false W = [] → ∀ pre : List Nat,
    ∃ l, SC pre (L.flatMap pcT ++ W) l ∧ l.map Tok.kt = L.map (·.1) ++ [(0, [])]
  | [], h, W, hW, pre => ⟨_, .done (by simpa using hW), rfl⟩
  | q :: L, h, W, hW, pre => by
    obtain ⟨⟨⟨c, r, hX, hc⟩, hok, htk⟩, hsep⟩ := h q (by simp)
    have e : (q :: L).flatMap pcT ++ W = q.2.1 ++ (q.2.2 ++ (L.flatMap pcT ++ W)) := by simp [pcT]
    rw [e]
    have ht := htk (q.2.2 ++ (L.flatMap pcT ++ W)) (fun z hz => by
      obtain ⟨z0, r0, h0, hp⟩ := hsep.head
      rw [h0] at hz; simp at hz; subst hz; exact hp)
    have hs : skipC false (q.2.1 ++ (q.2.2 ++ (L.flatMap pcT ++ W))) = q.2.1 ++ (q.2.2 ++ (L.flatMap pcT ++ W)) := by rw [hX]; exact skipC_head hc _
    obtain ⟨l1, h1, h2⟩ := sc_seps L (fun q hq => h q (by simp [hq])) W hW []
    obtain ⟨l2, h3, h4⟩ := sc_skip h1 (hsep.skip _) (pre ++ skipped (q.2.1 ++ (q.2.2 ++ (L.flatMap pcT ++ W))) ++ (q.2.1 ++ (q.2.2 ++ (L.flatMap pcT ++ W))).take q.2.1.length)
    generalize hY : q.2.2 ++ (L.flatMap pcT ++ W) = Y at *
    have hd : (q.2.1 ++ Y).drop q.2.1.length = Y := List.drop_left
    refine ⟨⟨q.1.1, q.1.2, along start (pre ++ skipped (q.2.1 ++ Y))⟩ :: l2, ?_, ?_⟩
    · rw [hX] at hs ht h3 hd ⊢
      refine SC.step (c := c) (r := r ++ Y) hs ht ?_
      change SC _ (((c :: r) ++ Y).drop (c :: r).length) l2
      rw [hd]
      exact h3
    · simp [Tok.kt, h4, h2]

/-- what is put behind a token -/
def sepC : Nat → List Nat
  | 0 => [32]
  | 1 => [9]
  | 2 => [10]
  | 3 => [32, 35, 32, 97, 110, 100, 59, 32, 115, 111, 32, 125, 10]
  | _ => [12288]
def sepT (j : Nat) : List UInt8 := (sepC j).flatMap enc
theorem skip_one {b : Nat} (h : cls b = 1 ∨ b = 10) (Z : List Nat) : skipC false ([b] ++ Z) = skipC false Z := by
  rcases h with h | h
  · exact skipC_blank h Z
  · subst h; simp [skipC]
theorem sep_one {b : Nat} (h : cls b = 1 ∨ b = 10) (hp : part b = false) (hk : okc b = true) : Sep [b] := ⟨skip_one h, ⟨b, [], rfl, hp⟩, by simpa using hk⟩
theorem sepC_ok (j : Nat) : Sep (sepC j) := by
  unfold sepC
  split
  · exact sep_one (Or.inl (by decide)) (by decide) (by decide)
  · exact sep_one (Or.inl (by decide)) (by decide) (by decide)
  · exact sep_one (Or.inr rfl) (by decide) (by decide)
  · refine ⟨fun Z => ?_, ⟨32, _, rfl, by decide⟩, by decide⟩
    have e1 : ([32, 35, 32, 97, 110, 100, 59, 32, 115, 111, 32, 125, 10] : List Nat) ++ Z = 32 :: 35 :: ([32, 97, 110, 100, 59, 32, 115, 111, 32, 125] ++ (10 :: Z)) := by simp
    rw [e1, skipC_blank (by decide)]
    have h6 : cls (35 : Nat) = 6 := by decide
    have e2 : ∀ r : List Nat, skipC false (35 :: r) = skipC true r := fun r => by
      simp only [skipC]
      rw [if_neg (by omega), if_pos h6]
    rw [e2, skip_com _ (by decide)]
    simp [skipC]
  · exact sep_one (Or.inl (by decide)) (by decide) (by decide)
/-- a token in another sign -/
def altW (b : Bool) (k : Int) (x : List UInt8) : List UInt8 := if b then alt false k x else x
def writtenT (f : Nat → Bool) (g : Nat → Nat) : Nat → List Tok → List UInt8
  | _, [] => []
  | i, x :: r => altW (f i) x.kind x.text ++ sepT (g i) ++ writtenT f g (i + 1) r
theorem tk_altW {c : Nat} {r : List Nat} {k : Int} {x : List UInt8} {m : Nat} (h : tk (c :: r) = .ok k x m) (hok : ∀ d ∈ c :: r, okc d = true) (b : Bool) : ∃ X, Piece k x X ∧ X.flatMap enc = altW b k x := by
  cases b with
  | true => exact tk_alt h hok false
  | false => exact tk_again h hok
theorem sc_written (f : Nat → Bool) (g : Nat → Nat) {pre cs : List Nat} {l : List Tok} (h : SC pre cs l) : (∀ c ∈ cs, okc c = true) → ∀ i, ∃ (L : List Pc) (W : List Nat), (∀ q ∈ L, Piece q.1.1 q.1.2 q.2.1 ∧ Sep q.2.2) ∧ Sep W ∧ l.map Tok.kt = L.map (·.1) ++ [(0, [])] ∧ writtenT f g i l = (L.flatMap pcT ++ W).flatMap enc := by
  induction h with
  | done h => exact fun hok i => ⟨[], sepC (g i), by simp, sepC_ok _, rfl, by simp [writtenT, altW, alt, sepT]⟩
  | @step pre cs c r k x m l h ht hl ih =>
    intro hok i
    have hok2 := drop_ok hok h
    obtain ⟨L, W, h1, hW, h2, h3⟩ := ih (fun d hd => hok2 d (List.mem_of_mem_drop hd)) (i + 1)
    obtain ⟨X, hX, hx⟩ := tk_altW ht hok2 (f i)
    refine ⟨((k, x), X, sepC (g i)) :: L, W, ?_, hW, ?_, ?_⟩
    · intro q hq
      rcases List.mem_cons.1 hq with rfl | hq
      · exact ⟨hX, sepC_ok _⟩
      · exact h1 q hq
    · simp [Tok.kt, h2]
    · simp only [writtenT, List.flatMap_cons, List.flatMap_append, hx, h3, sepT, pcT, List.append_assoc]
theorem pcs_ok : ∀ (L : List Pc), (∀ q ∈ L, Piece q.1.1 q.1.2 q.2.1 ∧ Sep q.2.2) → ∀ c ∈ L.flatMap pcT, okc c = true := by
  intro L h c hc
  rw [List.mem_flatMap] at hc
  obtain ⟨q, hq, hc⟩ := hc
  rcases List.mem_append.1 hc with hc | hc
  · exact (h q hq).1.ok c hc
  · exact (h q hq).2.ok c hc
theorem written_law (f : Nat → Bool) (g : Nat → Nat) {l : List UInt8} {toks : List Tok} (h : scanS l = .ok toks) (hs : (writtenT f g 0 toks).length ≤ 4096) : ∃ l', scanS (writtenT f g 0 toks) = .ok l' ∧ l'.map Tok.kt = toks.map Tok.kt := by
  obtain ⟨_, h2, h3⟩ := scanS_ok h
  obtain ⟨L, W, q1, qW, q2, q3⟩ := sc_written f g h3 (txt_of l).ok 0
  have hW : skipC false W = [] := by have := qW.skip []; simpa [skipC] using this
  obtain ⟨l', r1, r2⟩ := sc_seps L q1 W hW []
  refine ⟨l', scanS_mk hs q3 ?_ r1, by rw [r2, q2]⟩
  intro c hc
  rcases List.mem_append.1 hc with hc | hc
  · exact pcs_ok L q1 c hc
  · exact qW.ok c hc

/-! reading -/
theorem no_kt {r r' : List Tok} (h : r.map Tok.kt = r'.map Tok.kt) : noR r = noR r' := by
  have e : ∀ l : List Tok, noR l = (l.map Tok.kt).map fun p => ⟨p.1, p.2, start⟩ := fun l => by simp [noR, noP, Tok.kt]
  rw [e, e, h]
theorem parse_kt {s s' : List UInt8} {r r' : List Tok} (h : scanS s = .ok r) (h' : scanS s' = .ok r') (hk : r'.map Tok.kt = r.map Tok.kt) {g : Pg} (hg : parseS s = .ok g) : ∃ g', parseS s' = .ok g' ∧ g'.no = g.no := by
  unfold parseS at hg ⊢
  rw [h] at hg
  rw [h']
  simp only at hg ⊢
  have hl : r'.length = r.length := by have := congrArg List.length hk; simpa using this
  have e := prog_no (8 * r.length + 10) r
  have e' := prog_no (8 * r.length + 10) r'
  rw [no_kt hk, e, hg] at e'
  rw [hl]
  revert e'
  rcases progS (8 * r.length + 10) r' with e | g'
  · intro h; cases h
  · intro h; exact ⟨g', rfl, (Except.ok.inj h).symm⟩
theorem hd_no (s : Sm) : hdS s.no = hdS s := by
  cases s with
  | set p v x e => cases e <;> rfl
  | _ => rfl
theorem bls_no_nil {b : Bls} : b.no = .nil ↔ b = .nil := by cases b <;> simp [Bls.no]
mutual
theorem prSm_no (ah : List UInt8) : ∀ s : Sm, prSm ah s.no = prSm ah s
  | .set p v x e => by have := hd_no (.set p v x e); simp only [Sm.no] at this ⊢; simp only [prSm, this]
  | .skip p => rfl
  | .stop p => rfl
  | .mark p x => rfl
  | .choose p .nil => rfl
  | .choose p (.cons q b r) => by simp only [Sm.no, Bls.no, prSm, prSms_no (ah ++ [32, 32]) b, prBl_no ah 1 r]
  | .loop p b => by simp only [Sm.no, prSm, prSms_no (ah ++ [32, 32]) b]
  | .iff p l r eq t e => by
    have := hd_no (.iff p l r eq t e)
    simp only [Sm.no] at this
    simp only [Sm.no, prSm, this, prSms_no (ah ++ [32, 32]) t, prEl_no ah e]
  | .whil p l r eq b => by
    have := hd_no (.whil p l r eq b)
    simp only [Sm.no] at this
    simp only [Sm.no, prSm, this, prSms_no (ah ++ [32, 32]) b]
theorem prSms_no (ah : List UInt8) : ∀ s : Sms, prSms ah s.no = prSms ah s
  | .nil => rfl
  | .cons s r => by simp only [Sms.no, prSms, prSm_no ah s, prSms_no ah r]
theorem prBl_no (ah : List UInt8) (j : Nat) : ∀ s : Bls, prBl ah j s.no = prBl ah j s
  | .nil => rfl
  | .cons p b r => by simp only [Bls.no, prBl, prSms_no (ah ++ [32, 32]) b, prBl_no ah (j + 1) r]
theorem prEl_no (ah : List UInt8) : ∀ s : Els, prEl ah s.no = prEl ah s
  | .none => rfl
  | .some p b => by simp only [Els.no, prEl, prSms_no (ah ++ [32, 32]) b]
end
theorem pg_no (g : Pg) : pgS g.no = pgS g := by unfold pgS; simp only [Pg.no, prSms_no]
theorem pg_same {g g' : Pg} (h : g'.no = g.no) : pgS g' = pgS g := by rw [← pg_no g', h, pg_no]
end Go.Proofs.YtjmjdmmojgmcdaaDoor
