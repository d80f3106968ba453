/- Printing: a statement's blocks. -/
import Derived.Test.YtjmjdmmojgmcdaaDoorLY
import Derived.Deep.DrawnRows
namespace Go.Proofs.YtjmjdmmojgmcdaaDoor
open Go.RowKit
set_option linter.unusedVariables false
set_option linter.unusedSimpArgs false
attribute [local go_sem ↓] Go.wp_at_zero Go.wp_at_succ

/-- blocks of other kinds than statements and numbers -/
def Other (S : Nat → Prop) (B : Nat) (w : World) : Prop := ∀ k, B ≤ k → k < w.heap.size → S k → ∃ cs t fz, Blk w k (.cells cs t fz) ∧ t ≠ 159 ∧ t ≠ 105 ∧ t ≠ 131
theorem own_other {S : Nat → Prop} {w w' : World} {B : Nat} {e : TypeId} {size : Nat} {v : Value} {n : Nat} {xs : List Value} (h : w.ownsRow B e size v n xs) (f : Fr S w w') (hS : Other S B w) (he : e = 159 ∨ e = 105 ∨ e = 131) : w'.ownsRow B e size v n xs :=
  own_fr h f (fun k hk e' => by
    obtain ⟨cs, t, fz, hb, h1, h2, h3⟩ := hS k (h.lt k hk).1 (h.lt k hk).2 e'
    refine own_ne h hb ?_ hk
    rcases he with rfl | rfl | rfl <;> assumption)
theorem NdIs.other {S : Nat → Prop} {B : Nat} {w w' : World} (f : Fr S w w') (hS : Other S B w) : ∀ {n : Nd} {v : Value}, NdIs w B n v → NdIs w' B n v
  | .num n, v, ⟨a, c, h1, h2⟩ => ⟨a, c, h1, own_other h2 f hS (Or.inl rfl)⟩
  | .name i x, v, h => h
  | .minus a, v, ⟨y, h1, h2⟩ => ⟨y, NdIs.other f hS h1, h2⟩
  | .two op l r, v, ⟨y, z, h1, h2, h3⟩ => ⟨y, z, NdIs.other f hS h1, NdIs.other f hS h2, h3⟩
mutual
theorem SmIs.other {S : Nat → Prop} {B : Nat} {w w' : World} (f : Fr S w w') (hS : Other S B w) : ∀ (s : Sm) (v : Value), SmIs w B s v → SmIs w' B s v
  | .set p k x none, v, h => by simp only [SmIs] at h ⊢; exact h
  | .set p k x (some n), v, h => by
    simp only [SmIs] at h ⊢
    obtain ⟨y, h1, h2⟩ := h
    exact ⟨y, h1.other f hS, h2⟩
  | .skip p, v, h => by simp only [SmIs] at h ⊢; exact h
  | .stop p, v, h => by simp only [SmIs] at h ⊢; exact h
  | .mark p x, v, h => by simp only [SmIs] at h ⊢; exact h
  | .choose p bs, v, h => by
    simp only [SmIs] at h ⊢
    obtain ⟨a, n, c, vs, h1, h2, h3⟩ := h
    exact ⟨a, n, c, vs, own_other h1 f hS (Or.inr (Or.inr rfl)), BlsAre.other f hS bs vs h2, h3⟩
  | .loop p b, v, h => by
    simp only [SmIs] at h ⊢
    obtain ⟨a, n, c, vs, h1, h2, h3⟩ := h
    exact ⟨a, n, c, vs, own_other h1 f hS (Or.inr (Or.inl rfl)), SmsAre.other f hS b vs h2, h3⟩
  | .iff p l r eq t e, v, h => by
    simp only [SmIs] at h ⊢
    obtain ⟨y, z, a, n, c, vs, ev, h1, h2, h3, h4, h5, h6⟩ := h
    exact ⟨y, z, a, n, c, vs, ev, h1.other f hS, h2.other f hS, own_other h3 f hS (Or.inr (Or.inl rfl)), SmsAre.other f hS t vs h4, ElsIs.other f hS e ev h5, h6⟩
  | .whil p l r eq b, v, h => by
    simp only [SmIs] at h ⊢
    obtain ⟨y, z, a, n, c, vs, h1, h2, h3, h4, h6⟩ := h
    exact ⟨y, z, a, n, c, vs, h1.other f hS, h2.other f hS, own_other h3 f hS (Or.inr (Or.inl rfl)), SmsAre.other f hS b vs h4, h6⟩
theorem SmsAre.other {S : Nat → Prop} {B : Nat} {w w' : World} (f : Fr S w w') (hS : Other S B w) : ∀ (l : Sms) (vs : List Value), SmsAre w B l vs → SmsAre w' B l vs
  | .nil, vs, h => by simp only [SmsAre] at h ⊢; exact h
  | .cons s r, vs, h => by
    simp only [SmsAre] at h ⊢
    obtain ⟨v, us, h1, h2, h3⟩ := h
    exact ⟨v, us, h1, SmIs.other f hS s v h2, SmsAre.other f hS r us h3⟩
theorem BlsAre.other {S : Nat → Prop} {B : Nat} {w w' : World} (f : Fr S w w') (hS : Other S B w) : ∀ (l : Bls) (vs : List Value), BlsAre w B l vs → BlsAre w' B l vs
  | .nil, vs, h => by simp only [BlsAre] at h ⊢; exact h
  | .cons p b r, vs, h => by
    simp only [BlsAre] at h ⊢
    obtain ⟨a, n, c, bs, us, h1, h2, h3, h4⟩ := h
    exact ⟨a, n, c, bs, us, h1, own_other h2 f hS (Or.inr (Or.inl rfl)), SmsAre.other f hS b bs h3, BlsAre.other f hS r us h4⟩
theorem ElsIs.other {S : Nat → Prop} {B : Nat} {w w' : World} (f : Fr S w w') (hS : Other S B w) : ∀ (l : Els) (v : Value), ElsIs w B l v → ElsIs w' B l v
  | .none, v, h => by simp only [ElsIs] at h ⊢; exact h
  | .some p b, v, h => by
    simp only [ElsIs] at h ⊢
    obtain ⟨g, a, n, c, vs, h1, h2, h3, h4, h5⟩ := h
    refine ⟨g, a, n, c, vs, h1, h2, h3.fr f (fun e => ?_), own_other h4 f hS (Or.inr (Or.inl rfl)), SmsAre.other f hS b vs h5⟩
    obtain ⟨cs, t, fz, hb, _, _, q⟩ := hS g h2 h3.lt e
    have h' : w.heap[g]? = _ := hb
    have h3' : w.heap[g]? = _ := h3
    rw [h3'] at h'
    simp only [Option.some.injEq, Obj.cells.injEq] at h'
    exact q h'.2.1.symm
end
theorem other_sb {B B' b : Nat} {p : Value} {bs : List Value} {w : World} (hb : SB B' b p bs w) : Other (SbB B' b w) B w := by
  intro k _ _ e
  rcases e.1 with e | ⟨cs, f, e⟩
  · subst e
    obtain ⟨v, hv⟩ := hb.blk
    exact ⟨_, _, _, hv, by decide, by decide, by decide⟩
  · exact ⟨_, _, _, e, by decide, by decide, by decide⟩

/-- a statement's blocks -/
def Bls.toL : Bls → List Sms
  | .nil => []
  | .cons _ b r => b :: r.toL
def blksOf : Sm → List Sms
  | .choose _ b => b.toL
  | .loop _ b => [b]
  | .whil _ _ _ _ b => [b]
  | .iff _ _ _ _ t .none => [t]
  | .iff _ _ _ _ t (.some _ e) => [t, e]
  | _ => []
def wordOf : Sm → List UInt8
  | .choose _ _ => or_
  | .iff _ _ _ _ _ (.some _ _) => else_
  | _ => []
def RowsAre (w : World) (B : Nat) : List Sms → List Value → Prop
  | [], vs => vs = []
  | b :: r, vs => ∃ a n c bs us, vs = .slice a n c :: us ∧ w.ownsRow B 105 1 (.slice a n c) n bs ∧ SmsAre w B b bs ∧ RowsAre w B r us
theorem RowsAre.other {S : Nat → Prop} {B : Nat} {w w' : World} (f : Fr S w w') (hS : Other S B w) : ∀ (l : List Sms) (vs : List Value), RowsAre w B l vs → RowsAre w' B l vs
  | [], vs, h => h
  | b :: r, vs, ⟨a, n, c, bs, us, h1, h2, h3, h4⟩ => ⟨a, n, c, bs, us, h1, own_other h2 f hS (Or.inr (Or.inl rfl)), SmsAre.other f hS _ _ h3, RowsAre.other f hS r us h4⟩
theorem other_no (B : Nat) (w : World) : Other No B w := fun _ _ _ e => e.elim
theorem RowsAre.snoc {w : World} {B : Nat} {b : Sms} {a : Option Addr} {n c : Nat} {bs : List Value} (ho : w.ownsRow B 105 1 (.slice a n c) n bs) (hs : SmsAre w B b bs) : ∀ (l : List Sms) (vs : List Value), RowsAre w B l vs → RowsAre w B (l ++ [b]) (vs ++ [.slice a n c])
  | [], vs, h => by
    simp only [RowsAre] at h
    subst h
    exact ⟨a, n, c, bs, [], rfl, ho, hs, rfl⟩
  | x :: r, vs, ⟨a', n', c', bs', us, h1, h2, h3, h4⟩ => ⟨a', n', c', bs', us ++ [.slice a n c], by rw [h1]; rfl, h2, h3, RowsAre.snoc ho hs r us h4⟩
theorem RowsAre.get {w : World} {B : Nat} : ∀ (l : List Sms) (vs : List Value) (i : Nat) (b : Sms), RowsAre w B l vs → l[i]? = some b → ∃ a n c bs, vs[i]? = some (.slice a n c) ∧ w.ownsRow B 105 1 (.slice a n c) n bs ∧ SmsAre w B b bs
  | [], vs, i, b, h, hi => by simp at hi
  | x :: r, vs, 0, b, ⟨a, n, c, bs, us, h1, h2, h3, h4⟩, hi => by
    simp only [List.getElem?_cons_zero, Option.some.injEq] at hi
    subst hi
    exact ⟨a, n, c, bs, by rw [h1]; rfl, h2, h3⟩
  | x :: r, vs, i + 1, b, ⟨a, n, c, bs, us, h1, h2, h3, h4⟩, hi => by
    obtain ⟨a', n', c', bs', q1, q2, q3⟩ := RowsAre.get r us i b h4 (by simpa using hi)
    exact ⟨a', n', c', bs', by rw [h1]; simpa using q1, q2, q3⟩
theorem RowsAre.len {w : World} {B : Nat} : ∀ (l : List Sms) (vs : List Value), RowsAre w B l vs → vs.length = l.length
  | [], vs, h => by simp only [RowsAre] at h; subst h; rfl
  | x :: r, vs, ⟨a, n, c, bs, us, h1, h2, h3, h4⟩ => by rw [h1]; simp [RowsAre.len r us h4]
theorem BlsAre.get {w : World} {B : Nat} : ∀ (l : Bls) (vs : List Value) (i : Nat) (b : Sms), BlsAre w B l vs → l.toL[i]? = some b → ∃ (p : Pl) (a : Option Addr) (n c : Nat) (bs : List Value), vs[i * 5]? = some (.int .i64 p.b) ∧ vs[i * 5 + 1]? = some (.int .i64 p.g) ∧ vs[i * 5 + 2]? = some (.int .i64 p.l) ∧ vs[i * 5 + 3]? = some (.int .i64 p.c) ∧ vs[i * 5 + 4]? = some (.slice a n c) ∧ w.ownsRow B 105 1 (.slice a n c) n bs ∧ SmsAre w B b bs
  | .nil, vs, i, b, h, hi => by simp [Bls.toL] at hi
  | .cons p x r, vs, 0, b, h, hi => by
    simp only [BlsAre] at h
    obtain ⟨a, n, c, bs, us, h1, h2, h3, h4⟩ := h
    simp only [Bls.toL, List.getElem?_cons_zero, Option.some.injEq] at hi
    subst hi
    exact ⟨p, a, n, c, bs, by rw [h1]; rfl, by rw [h1]; rfl, by rw [h1]; rfl, by rw [h1]; rfl, by rw [h1]; rfl, h2, h3⟩
  | .cons p x r, vs, i + 1, b, h, hi => by
    simp only [BlsAre] at h
    obtain ⟨a, n, c, bs, us, h1, h2, h3, h4⟩ := h
    obtain ⟨p', a', n', c', bs', q0, q1, q2, q3, q4, q5, q6⟩ := BlsAre.get r us i b h4 (by simpa [Bls.toL] using hi)
    have e : ∀ k, (([.int .i64 p.b, .int .i64 p.g, .int .i64 p.l, .int .i64 p.c, .slice a n c] : List Value) ++ us)[(i + 1) * 5 + k]? = us[i * 5 + k]? := by
      intro k
      rw [List.getElem?_append_right (by simp; omega)]
      congr 1
      simp
      omega
    have e0 := e 0
    simp only [Nat.add_zero] at e0
    exact ⟨p', a', n', c', bs', by rw [h1, e0]; exact q0, by rw [h1, e]; exact q1, by rw [h1, e]; exact q2, by rw [h1, e]; exact q3, by rw [h1, e]; exact q4, q5, q6⟩
theorem BlsAre.len {w : World} {B : Nat} : ∀ (l : Bls) (vs : List Value), BlsAre w B l vs → vs.length = l.toL.length * 5
  | .nil, vs, h => by simp only [BlsAre] at h; subst h; rfl
  | .cons p x r, vs, h => by
    simp only [BlsAre] at h
    obtain ⟨a, n, c, bs, us, h1, h2, h3, h4⟩ := h
    rw [h1]
    simp [Bls.toL, BlsAre.len r us h4]
    omega
end Go.Proofs.YtjmjdmmojgmcdaaDoor
