/- What Lines tells, plain; and that it hangs on the tokens' kinds and texts alone, but for places. -/
import Derived.Test.YtjmjdmmojgmcdaaDoorNH
import Derived.Test.YtjmjdmmojgmcdaaDoorNI
namespace Go.Proofs.YtjmjdmmojgmcdaaDoor
open Go
set_option linter.unusedVariables false
set_option linter.unusedSimpArgs false

def plOf : Sm → Pl
  | .set p _ _ _ => p
  | .skip p => p
  | .stop p => p
  | .mark p _ => p
  | .choose p _ => p
  | .loop p _ => p
  | .iff p _ _ _ _ _ => p
  | .whil p _ _ _ _ => p
mutual
def lnSm (d : Nat) : Sm → List Ln
  | .set p k x e => [⟨kdS (.set p k x e), d, hdS (.set p k x e), p⟩]
  | .skip p => [⟨kdS (.skip p), d, skip_, p⟩]
  | .stop p => [⟨kdS (.stop p), d, stop_, p⟩]
  | .mark p x => [⟨kdS (.mark p x), d, hdS (.mark p x), p⟩]
  | .choose p b => ⟨kdS (.choose p b), d, choose_, p⟩ :: lnBl d 0 b
  | .loop p b => ⟨kdS (.loop p b), d, loop_, p⟩ :: lnSms (d + 1) b
  | .iff p l r eq t e => ⟨kdS (.iff p l r eq t e), d, hdS (.iff p l r eq t e), p⟩ :: (lnSms (d + 1) t ++ lnEl d e)
  | .whil p l r eq b => ⟨kdS (.whil p l r eq b), d, hdS (.whil p l r eq b), p⟩ :: lnSms (d + 1) b
def lnSms (d : Nat) : Sms → List Ln
  | .nil => []
  | .cons s r => lnSm d s ++ lnSms d r
def lnBl (d j : Nat) : Bls → List Ln
  | .nil => []
  | .cons p b r => (if j = 0 then [] else [⟨8, d, or_, p⟩]) ++ lnSms (d + 1) b ++ lnBl d (j + 1) r
def lnEl (d : Nat) : Els → List Ln
  | .none => []
  | .some p b => ⟨11, d, else_, p⟩ :: lnSms (d + 1) b
end
/-- a program's lines -/
def lnS (g : Pg) : List Ln := ⟨1, 0, dcS g.begins, g.at_⟩ :: lnSms 0 g.body
def Ln.no (x : Ln) : Ln := ⟨x.kind, x.depth, x.text, start⟩
def lnNo (l : List Ln) : List Ln := l.map Ln.no
theorem lnNo_app (a b : List Ln) : lnNo (a ++ b) = lnNo a ++ lnNo b := by simp [lnNo]
theorem lnNo_cons (x : Ln) (b : List Ln) : lnNo (x :: b) = x.no :: lnNo b := rfl
theorem kd_no (s : Sm) : kdS s.no = kdS s := by
  cases s with
  | set p v x e => cases e <;> rfl
  | _ => rfl
mutual
theorem lnSm_no (d : Nat) : ∀ s : Sm, lnNo (lnSm d s.no) = lnNo (lnSm d s)
  | .set p v x e => by have h := hd_no (.set p v x e); have k := kd_no (.set p v x e); simp only [Sm.no] at h k ⊢; simp only [lnSm, h, k]; rfl
  | .skip p => rfl
  | .stop p => rfl
  | .mark p x => rfl
  | .choose p b => by have k := kd_no (.choose p b); simp only [Sm.no] at k ⊢; simp only [lnSm, k, lnNo_cons, lnBl_no d 0 b, Ln.no]
  | .loop p b => by have k := kd_no (.loop p b); simp only [Sm.no] at k ⊢; simp only [lnSm, k, lnNo_cons, lnSms_no (d + 1) b, Ln.no]
  | .iff p l r eq t e => by
    have h := hd_no (.iff p l r eq t e)
    have k := kd_no (.iff p l r eq t e)
    simp only [Sm.no] at h k ⊢
    simp only [lnSm, h, k, lnNo_cons, lnNo_app, lnSms_no (d + 1) t, lnEl_no d e, Ln.no]
  | .whil p l r eq b => by
    have h := hd_no (.whil p l r eq b)
    have k := kd_no (.whil p l r eq b)
    simp only [Sm.no] at h k ⊢
    simp only [lnSm, h, k, lnNo_cons, lnSms_no (d + 1) b, Ln.no]
theorem lnSms_no (d : Nat) : ∀ s : Sms, lnNo (lnSms d s.no) = lnNo (lnSms d s)
  | .nil => rfl
  | .cons s r => by simp only [Sms.no, lnSms, lnNo_app, lnSm_no d s, lnSms_no d r]
theorem lnBl_no (d j : Nat) : ∀ s : Bls, lnNo (lnBl d j s.no) = lnNo (lnBl d j s)
  | .nil => rfl
  | .cons p b r => by
    simp only [Bls.no, lnBl, lnNo_app, lnSms_no (d + 1) b, lnBl_no d (j + 1) r]
    split <;> rfl
theorem lnEl_no (d : Nat) : ∀ s : Els, lnNo (lnEl d s.no) = lnNo (lnEl d s)
  | .none => rfl
  | .some p b => by simp only [Els.no, lnEl, lnNo_cons, lnSms_no (d + 1) b, Ln.no]
end
theorem lnS_no (g : Pg) : lnNo (lnS g.no) = lnNo (lnS g) := by
  unfold lnS
  simp only [lnNo_cons, Pg.no, lnSms_no 0 g.body, Ln.no]
theorem lnS_same {g g' : Pg} (h : g'.no = g.no) : lnNo (lnS g') = lnNo (lnS g) := by rw [← lnS_no g', h, lnS_no]
/-- LangSigns, plain: what is written with other signs and blanks is read as the same program, but for places; it is printed as the same text -/
theorem signs_read (f : Nat → Bool) (k : Nat → Nat) {s : List UInt8} {g : Pg} (h : parseS s = .ok g) :
    ∃ toks, scanS s = .ok toks ∧ ((writtenT f k 0 toks).length ≤ 4096 → ∃ g', parseS (writtenT f k 0 toks) = .ok g' ∧ pgS g' = pgS g ∧ lnNo (lnS g') = lnNo (lnS g)) := by
  have h0 := h
  unfold parseS at h
  cases hs : scanS s with
  | bad n p => rw [hs] at h; cases h
  | ok toks =>
    refine ⟨toks, rfl, fun hl => ?_⟩
    obtain ⟨l', h1, h2⟩ := written_law f k hs hl
    obtain ⟨g', h3, h4⟩ := parse_kt hs h1 h2 h0
    exact ⟨g', h3, pg_same h4, lnS_same h4⟩
end Go.Proofs.YtjmjdmmojgmcdaaDoor
