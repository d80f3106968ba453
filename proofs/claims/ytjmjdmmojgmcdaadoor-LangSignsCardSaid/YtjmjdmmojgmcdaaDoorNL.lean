/- Lines in lists; how long; blocks with their places. -/
import Derived.Test.YtjmjdmmojgmcdaaDoorNJ
namespace Go.Proofs.YtjmjdmmojgmcdaaDoor
open Go Go.RowKit
set_option linter.unusedVariables false
set_option linter.unusedSimpArgs false

theorem lnSms_flat (d : Nat) : ∀ l : Sms, lnSms d l = l.toL.flatMap (lnSm d)
  | .nil => rfl
  | .cons s r => by simp only [lnSms, Sms.toL, List.flatMap_cons, lnSms_flat d r]
def Bls.toP : Bls → List (Pl × Sms)
  | .nil => []
  | .cons p b r => (p, b) :: r.toP
def lnRw (d j : Nat) (x : Pl × Sms) : List Ln := (if j = 0 then [] else [⟨8, d, or_, x.1⟩]) ++ lnSms (d + 1) x.2
def lnRows (d : Nat) : Nat → List (Pl × Sms) → List Ln
  | _, [] => []
  | j, x :: r => lnRw d j x ++ lnRows d (j + 1) r
theorem lnRows_snoc (d : Nat) : ∀ (l : List (Pl × Sms)) (j : Nat) (x : Pl × Sms), lnRows d j (l ++ [x]) = lnRows d j l ++ lnRw d (j + l.length) x
  | [], j, x => by simp [lnRows]
  | y :: r, j, x => by
    simp only [List.cons_append, lnRows, lnRows_snoc d r (j + 1) x, List.append_assoc, List.length_cons]
    rw [show j + 1 + r.length = j + (r.length + 1) by omega]
theorem lnRows_succ (d : Nat) {l : List (Pl × Sms)} {k : Nat} {x : Pl × Sms} (h : l[k]? = some x) : lnRows d 0 (l.take (k + 1)) = lnRows d 0 (l.take k) ++ lnRw d k x := by
  have hk : k < l.length := by
    rw [List.getElem?_eq_some_iff] at h
    exact h.1
  rw [List.take_add_one, h]
  show lnRows d 0 (l.take k ++ [x]) = _
  rw [lnRows_snoc, List.length_take, Nat.min_eq_left (Nat.le_of_lt hk), Nat.zero_add]
theorem lnBl_rows (d : Nat) : ∀ (b : Bls) (j : Nat), lnBl d j b = lnRows d j b.toP
  | .nil, j => by simp [lnBl, lnRows, Bls.toP]
  | .cons p b r, j => by simp only [lnBl, lnRows, Bls.toP, lnRw, lnBl_rows d r (j + 1)]
theorem BlsAre.getP {w : World} {B : Nat} : ∀ (l : Bls) (vs : List Value) (i : Nat) (x : Pl × Sms), BlsAre w B l vs → l.toP[i]? = some x → ∃ (a : Option Addr) (n c : Nat) (bs : List Value), vs[i * 5]? = some (.int .i64 x.1.b) ∧ vs[i * 5 + 1]? = some (.int .i64 x.1.g) ∧ vs[i * 5 + 2]? = some (.int .i64 x.1.l) ∧ vs[i * 5 + 3]? = some (.int .i64 x.1.c) ∧ vs[i * 5 + 4]? = some (.slice a n c) ∧ w.ownsRow B 105 1 (.slice a n c) n bs ∧ SmsAre w B x.2 bs
  | .nil, vs, i, b, h, hi => by simp [Bls.toP] at hi
  | .cons p y r, vs, 0, b, h, hi => by
    simp only [BlsAre] at h
    obtain ⟨a, n, c, bs, us, h1, h2, h3, h4⟩ := h
    simp only [Bls.toP, List.getElem?_cons_zero, Option.some.injEq] at hi
    subst hi
    exact ⟨a, n, c, bs, by rw [h1]; rfl, by rw [h1]; rfl, by rw [h1]; rfl, by rw [h1]; rfl, by rw [h1]; rfl, h2, h3⟩
  | .cons p y r, vs, i + 1, b, h, hi => by
    simp only [BlsAre] at h
    obtain ⟨a, n, c, bs, us, h1, h2, h3, h4⟩ := h
    obtain ⟨a', n', c', bs', q0, q1, q2, q3, q4, q5, q6⟩ := BlsAre.getP r us i b h4 (by simpa [Bls.toP] using hi)
    have e : ∀ k, (([.int .i64 p.b, .int .i64 p.g, .int .i64 p.l, .int .i64 p.c, .slice a n c] : List Value) ++ us)[(i + 1) * 5 + k]? = us[i * 5 + k]? := by
      intro k
      rw [List.getElem?_append_right (by simp; omega)]
      congr 1
      simp
      omega
    have e0 := e 0
    simp only [Nat.add_zero] at e0
    exact ⟨a', n', c', bs', by rw [h1, e0]; exact q0, by rw [h1, e]; exact q1, by rw [h1, e]; exact q2, by rw [h1, e]; exact q3, by rw [h1, e]; exact q4, q5, q6⟩
theorem BlsAre.lenP {w : World} {B : Nat} : ∀ (l : Bls) (vs : List Value), BlsAre w B l vs → vs.length = l.toP.length * 5
  | .nil, vs, h => by simp only [BlsAre] at h; subst h; rfl
  | .cons p x r, vs, h => by
    simp only [BlsAre] at h
    obtain ⟨a, n, c, bs, us, h1, h2, h3, h4⟩ := h
    rw [h1]
    simp [Bls.toP, BlsAre.lenP r us h4]
    omega
mutual
theorem lnSm_len (d : Nat) : ∀ s : Sm, (lnSm d s).length ≤ s.sz
  | .set p k x e => by simp [lnSm, Sm.sz]
  | .skip p => by simp [lnSm, Sm.sz]
  | .stop p => by simp [lnSm, Sm.sz]
  | .mark p x => by simp [lnSm, Sm.sz]
  | .choose p b => by have := lnBl_len d 0 b; simp only [lnSm, Sm.sz, List.length_cons]; omega
  | .loop p b => by have := lnSms_len (d + 1) b; simp only [lnSm, Sm.sz, List.length_cons]; omega
  | .iff p l r eq t e => by have := lnSms_len (d + 1) t; have := lnEl_len d e; simp only [lnSm, Sm.sz, List.length_cons, List.length_append]; omega
  | .whil p l r eq b => by have := lnSms_len (d + 1) b; simp only [lnSm, Sm.sz, List.length_cons]; omega
theorem lnSms_len (d : Nat) : ∀ l : Sms, (lnSms d l).length ≤ l.sz
  | .nil => by simp [lnSms]
  | .cons s r => by have := lnSm_len d s; have := lnSms_len d r; simp only [lnSms, Sms.sz, List.length_append]; omega
theorem lnBl_len (d j : Nat) : ∀ l : Bls, (lnBl d j l).length ≤ l.sz
  | .nil => by simp [lnBl]
  | .cons p b r => by
    have := lnSms_len (d + 1) b
    have := lnBl_len d (j + 1) r
    simp only [lnBl, Bls.sz, List.length_append]
    split <;> simp <;> omega
theorem lnEl_len (d : Nat) : ∀ l : Els, (lnEl d l).length ≤ l.sz
  | .none => by simp [lnEl]
  | .some p b => by have := lnSms_len (d + 1) b; simp only [lnEl, Els.sz, List.length_cons]; omega
end
theorem ln_take (d : Nat) : ∀ (l : Sms) (i : Nat) (s : Sm), l.toL[i]? = some s → ((l.toL.take i).flatMap (lnSm d)).length + s.sz < l.sz
  | .nil, i, s, h => by simp [Sms.toL] at h
  | .cons x r, 0, s, h => by
    simp only [Sms.toL, List.getElem?_cons_zero, Option.some.injEq] at h
    subst h
    simp [Sms.sz]
    omega
  | .cons x r, i + 1, s, h => by
    have h1 := ln_take d r i s (by simpa [Sms.toL] using h)
    have h2 := lnSm_len d x
    simp only [Sms.toL, List.take_succ_cons, List.flatMap_cons, List.length_append, Sms.sz]
    omega
theorem ln_takeP (d : Nat) : ∀ (b : Bls) (q j : Nat) (x : Pl × Sms), b.toP[j]? = some x → (lnRows d q (b.toP.take j)).length + x.2.sz < b.sz ∧ (b.okS → x.2.okS)
  | .nil, q, j, x, h => by simp [Bls.toP] at h
  | .cons p y r, q, 0, x, h => by
    simp only [Bls.toP, List.getElem?_cons_zero, Option.some.injEq] at h
    subst h
    exact ⟨by simp [lnRows, Bls.sz]; omega, fun q => by simp only [Bls.okS] at q; exact q.1⟩
  | .cons p y r, q, j + 1, x, h => by
    obtain ⟨h1, h3⟩ := ln_takeP d r (q + 1) j x (by simpa [Bls.toP] using h)
    have h2 := lnSms_len (d + 1) y
    refine ⟨?_, fun q => by simp only [Bls.okS] at q; exact h3 q.2⟩
    simp only [Bls.toP, List.take_succ_cons, lnRows, List.length_append, Bls.sz, lnRw]
    split <;> simp <;> omega
/-- no line's head is too long -/
def LnB (l : List Ln) : Prop := ∀ x ∈ l, x.text.length ≤ 100000000
theorem LnB.app {a b : List Ln} : LnB (a ++ b) ↔ LnB a ∧ LnB b := by
  unfold LnB
  constructor
  · exact fun h => ⟨fun x hx => h x (List.mem_append_left _ hx), fun x hx => h x (List.mem_append_right _ hx)⟩
  · rintro ⟨h1, h2⟩ x hx
    rcases List.mem_append.mp hx with h | h
    · exact h1 x h
    · exact h2 x h
theorem LnB.cons {a : Ln} {b : List Ln} : LnB (a :: b) ↔ a.text.length ≤ 100000000 ∧ LnB b := by
  unfold LnB
  simp
theorem lnB_take (d : Nat) : ∀ (l : Sms) (i : Nat) (s : Sm), LnB (lnSms d l) → l.toL[i]? = some s → LnB (lnSm d s)
  | .nil, i, s, _, h => by simp [Sms.toL] at h
  | .cons x r, 0, s, hb, h => by
    simp only [Sms.toL, List.getElem?_cons_zero, Option.some.injEq] at h
    subst h
    simp only [lnSms] at hb
    exact (LnB.app.mp hb).1
  | .cons x r, i + 1, s, hb, h => by
    simp only [lnSms] at hb
    exact lnB_take d r i s (LnB.app.mp hb).2 (by simpa [Sms.toL] using h)
theorem lnB_takeP (d : Nat) : ∀ (b : Bls) (q j : Nat) (x : Pl × Sms), LnB (lnBl d q b) → b.toP[j]? = some x → LnB (lnSms (d + 1) x.2)
  | .nil, q, j, x, _, h => by simp [Bls.toP] at h
  | .cons p y r, q, 0, x, hb, h => by
    simp only [Bls.toP, List.getElem?_cons_zero, Option.some.injEq] at h
    subst h
    simp only [lnBl] at hb
    exact (LnB.app.mp (LnB.app.mp hb).1).2
  | .cons p y r, q, j + 1, x, hb, h => by
    simp only [lnBl] at hb
    exact lnB_takeP d r (q + 1) j x (LnB.app.mp hb).2 (by simpa [Bls.toP] using h)
/-- a head is part of what is printed -/
def LnT (l : List Ln) (n : Nat) : Prop := ∀ x ∈ l, x.text.length ≤ n
theorem LnT.app {a b : List Ln} {n m : Nat} (h1 : LnT a n) (h2 : LnT b m) {k : Nat} (hk : n + m ≤ k) : LnT (a ++ b) k := fun x hx => by
  rcases List.mem_append.mp hx with h | h
  · have := h1 x h; omega
  · have := h2 x h; omega
theorem LnT.le {a : List Ln} {n m : Nat} (h1 : LnT a n) (h : n ≤ m) : LnT a m := fun x hx => Nat.le_trans (h1 x hx) h
theorem LnT.one (a : Ln) {n : Nat} (h : a.text.length ≤ n) : LnT [a] n := fun x hx => by simp only [List.mem_singleton] at hx; subst hx; exact h
theorem LnT.cons {a : Ln} {b : List Ln} {n m : Nat} (h1 : a.text.length ≤ n) (h2 : LnT b m) {k : Nat} (hk : n + m ≤ k) : LnT (a :: b) k := fun x hx => by
  rcases List.mem_cons.mp hx with h | h
  · subst h; omega
  · have := h2 x h; omega
mutual
theorem lnSm_text (d : Nat) (ah : List UInt8) : ∀ s : Sm, LnT (lnSm d s) (prSm ah s).length
  | .set p k x e => by simp only [lnSm, prSm]; exact LnT.one _ (by simp; omega)
  | .skip p => by simp only [lnSm, prSm]; exact LnT.one _ (by simp; omega)
  | .stop p => by simp only [lnSm, prSm]; exact LnT.one _ (by simp; omega)
  | .mark p x => by simp only [lnSm, prSm]; exact LnT.one _ (by simp; omega)
  | .choose p .nil => by simp only [lnSm, prSm, lnBl]; exact LnT.one _ (by simp; omega)
  | .choose p (.cons q b r) => by
    have h1 := lnSms_text (d + 1) (ah ++ [32, 32]) b
    have h2 := lnBl_text d (0 + 1) ah 1 (by omega) r
    simp only [lnSm, prSm, lnBl, if_true, List.nil_append]
    exact LnT.cons (Nat.le_refl _) (LnT.app h1 h2 (Nat.le_refl _)) (by simp; omega)
  | .loop p b => by
    have h1 := lnSms_text (d + 1) (ah ++ [32, 32]) b
    simp only [lnSm, prSm]
    exact LnT.cons (Nat.le_refl _) h1 (by simp; omega)
  | .iff p l r eq t e => by
    have h1 := lnSms_text (d + 1) (ah ++ [32, 32]) t
    have h2 := lnEl_text d ah e
    simp only [lnSm, prSm]
    exact LnT.cons (Nat.le_refl _) (LnT.app h1 h2 (Nat.le_refl _)) (by simp; omega)
  | .whil p l r eq b => by
    have h1 := lnSms_text (d + 1) (ah ++ [32, 32]) b
    simp only [lnSm, prSm]
    exact LnT.cons (Nat.le_refl _) h1 (by simp; omega)
theorem lnSms_text (d : Nat) (ah : List UInt8) : ∀ l : Sms, LnT (lnSms d l) (prSms ah l).length
  | .nil => by simp only [lnSms]; intro x hx; simp at hx
  | .cons s r => by
    simp only [lnSms, prSms]
    exact LnT.app (lnSm_text d ah s) (lnSms_text d ah r) (by simp)
theorem lnBl_text (d j : Nat) (ah : List UInt8) (i : Nat) (hi : 0 < i) : ∀ l : Bls, LnT (lnBl d j l) (prBl ah i l).length
  | .nil => by simp only [lnBl]; intro x hx; simp at hx
  | .cons p b r => by
    have h1 := lnSms_text (d + 1) (ah ++ [32, 32]) b
    have h2 := lnBl_text d (j + 1) ah (i + 1) (by omega) r
    have h0 : LnT (if j = 0 then [] else [⟨8, d, or_, p⟩]) or_.length := by
      split
      · intro x hx; simp at hx
      · exact LnT.one _ (Nat.le_refl _)
    simp only [lnBl, prBl]
    rw [if_neg (show ¬ i = 0 by omega)]
    exact LnT.app (LnT.app h0 h1 (Nat.le_refl _)) h2 (by simp; omega)
theorem lnEl_text (d : Nat) (ah : List UInt8) : ∀ l : Els, LnT (lnEl d l) (prEl ah l).length
  | .none => by simp only [lnEl]; intro x hx; simp at hx
  | .some p b => by
    have h1 := lnSms_text (d + 1) (ah ++ [32, 32]) b
    simp only [lnEl, prEl]
    exact LnT.cons (Nat.le_refl _) h1 (by simp; omega)
end
end Go.Proofs.YtjmjdmmojgmcdaaDoor
