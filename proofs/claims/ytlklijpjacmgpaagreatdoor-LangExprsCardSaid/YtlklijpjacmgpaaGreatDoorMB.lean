/- What a program's statements are printed as: plain definitions. -/
import Derived.Test.YtlklijpjacmgpaaGreatDoorLZ
namespace Go.Proofs.YtlklijpjacmgpaaGreatDoor
open Go
set_option linter.unusedVariables false
set_option linter.unusedSimpArgs false

mutual
def prSm (ah : List UInt8) : Sm → List UInt8
  | .set p k x e => ah ++ hdS (.set p k x e) ++ [59, 10]
  | .skip p => ah ++ skip_ ++ [59, 10]
  | .stop p => ah ++ stop_ ++ [59, 10]
  | .mark p x => ah ++ hdS (.mark p x) ++ [59, 10]
  | .choose p .nil => ah ++ choose_ ++ [59, 10]
  | .choose p (.cons q b r) => ah ++ choose_ ++ ([32, 123, 10] ++ prSms (ah ++ [32, 32]) b ++ prBl ah 1 r) ++ ah ++ [125, 10]
  | .loop p b => ah ++ loop_ ++ ([32, 123, 10] ++ prSms (ah ++ [32, 32]) b) ++ ah ++ [125, 10]
  | .iff p l r eq t e => ah ++ hdS (.iff p l r eq t e) ++ ([32, 123, 10] ++ prSms (ah ++ [32, 32]) t ++ prEl ah e) ++ ah ++ [125, 10]
  | .whil p l r eq b => ah ++ hdS (.whil p l r eq b) ++ ([32, 123, 10] ++ prSms (ah ++ [32, 32]) b) ++ ah ++ [125, 10]
def prSms (ah : List UInt8) : Sms → List UInt8
  | .nil => []
  | .cons s r => prSm ah s ++ prSms ah r
def prBl (ah : List UInt8) (j : Nat) : Bls → List UInt8
  | .nil => []
  | .cons p b r => (if j = 0 then [] else ah ++ [125, 32] ++ or_) ++ [32, 123, 10] ++ prSms (ah ++ [32, 32]) b ++ prBl ah (j + 1) r
def prEl (ah : List UInt8) : Els → List UInt8
  | .none => []
  | .some p b => ah ++ [125, 32] ++ else_ ++ [32, 123, 10] ++ prSms (ah ++ [32, 32]) b
end
/-- one block -/
def prRw (ah wd : List UInt8) (j : Nat) (b : Sms) : List UInt8 := (if j = 0 then [] else ah ++ [125, 32] ++ wd) ++ [32, 123, 10] ++ prSms (ah ++ [32, 32]) b
def prRows (ah wd : List UInt8) : Nat → List Sms → List UInt8
  | _, [] => []
  | j, b :: r => prRw ah wd j b ++ prRows ah wd (j + 1) r
theorem prRows_snoc (ah wd : List UInt8) : ∀ (l : List Sms) (j : Nat) (b : Sms), prRows ah wd j (l ++ [b]) = prRows ah wd j l ++ prRw ah wd (j + l.length) b
  | [], j, b => by simp [prRows]
  | x :: r, j, b => by
    simp only [List.cons_append, prRows, prRows_snoc ah wd r (j + 1) b, List.append_assoc, List.length_cons]
    rw [show j + 1 + r.length = j + (r.length + 1) by omega]
theorem prBl_rows (ah : List UInt8) : ∀ (b : Bls) (j : Nat), prBl ah j b = prRows ah or_ j b.toL
  | .nil, j => by simp [prBl, prRows, Bls.toL]
  | .cons p b r, j => by simp only [prBl, prRows, Bls.toL, prRw, prBl_rows ah r (j + 1)]
theorem prSm_eq (ah : List UInt8) (s : Sm) : prSm ah s = ah ++ hdS s ++ (if (blksOf s).length = 0 then [59, 10] else prRows ah (wordOf s) 0 (blksOf s) ++ (ah ++ [125, 10])) := by
  cases s with
  | set p k x e => simp [prSm, blksOf]
  | skip p => simp [prSm, blksOf, hdS]
  | stop p => simp [prSm, blksOf, hdS]
  | mark p x => simp [prSm, blksOf]
  | choose p b =>
    cases b with
    | nil => simp [prSm, blksOf, hdS, Bls.toL]
    | cons q b r => simp [prSm, blksOf, hdS, Bls.toL, wordOf, prRows, prRw, prBl_rows]
  | loop p b => simp [prSm, blksOf, hdS, wordOf, prRows, prRw]
  | iff p l r eq t e =>
    cases e with
    | none => simp [prSm, blksOf, wordOf, prRows, prRw, prEl]
    | some q b => simp [prSm, blksOf, wordOf, prRows, prRw, prEl]
  | whil p l r eq b => simp [prSm, blksOf, wordOf, prRows, prRw]
def Sms.toL : Sms → List Sm
  | .nil => []
  | .cons s r => s :: r.toL
theorem prSms_flat (ah : List UInt8) : ∀ (l : Sms), prSms ah l = l.toL.flatMap (prSm ah)
  | .nil => by simp [prSms, Sms.toL]
  | .cons s r => by simp only [prSms, Sms.toL, List.flatMap_cons, prSms_flat ah r]
mutual
def Sm.okS : Sm → Prop
  | .set _ _ _ (some e) => e.ok
  | .choose _ b => b.okS
  | .loop _ b => b.okS
  | .iff _ l r _ t e => l.ok ∧ r.ok ∧ t.okS ∧ e.okS
  | .whil _ l r _ b => l.ok ∧ r.ok ∧ b.okS
  | _ => True
def Sms.okS : Sms → Prop
  | .nil => True
  | .cons s r => s.okS ∧ r.okS
def Bls.okS : Bls → Prop
  | .nil => True
  | .cons _ b r => b.okS ∧ r.okS
def Els.okS : Els → Prop
  | .none => True
  | .some _ b => b.okS
end
mutual
def Sm.sz : Sm → Nat
  | .choose _ b => b.sz + 1
  | .loop _ b => b.sz + 1
  | .iff _ _ _ _ t e => t.sz + e.sz + 1
  | .whil _ _ _ _ b => b.sz + 1
  | _ => 1
def Sms.sz : Sms → Nat
  | .nil => 1
  | .cons s r => s.sz + r.sz + 1
def Bls.sz : Bls → Nat
  | .nil => 1
  | .cons _ b r => b.sz + r.sz + 1
def Els.sz : Els → Nat
  | .none => 1
  | .some _ b => b.sz + 1
end
theorem okS_ok1 {s : Sm} (h : s.okS) : s.ok1 := by
  cases s with
  | set p k x e =>
    cases e with
    | none => trivial
    | some n => simp only [Sm.okS] at h; exact h
  | iff p l r eq t e => simp only [Sm.okS] at h; exact ⟨h.1, h.2.1⟩
  | whil p l r eq b => simp only [Sm.okS] at h; exact ⟨h.1, h.2.1⟩
  | skip p => trivial
  | stop p => trivial
  | mark p x => trivial
  | choose p b => trivial
  | loop p b => trivial
theorem bls_sub : ∀ (b : Bls) (x : Sms), x ∈ b.toL → x.sz < b.sz ∧ (b.okS → x.okS)
  | .nil, x, h => by simp [Bls.toL] at h
  | .cons p b r, x, h => by
    simp only [Bls.toL, List.mem_cons] at h
    rcases h with rfl | h
    · exact ⟨by simp only [Bls.sz]; omega, fun q => by simp only [Bls.okS] at q; exact q.1⟩
    · obtain ⟨h1, h2⟩ := bls_sub r x h
      exact ⟨by simp only [Bls.sz]; omega, fun q => by simp only [Bls.okS] at q; exact h2 q.2⟩
theorem blks_sub {s : Sm} {x : Sms} (h : x ∈ blksOf s) : x.sz < s.sz ∧ (s.okS → x.okS) := by
  cases s with
  | set p k y e => simp [blksOf] at h
  | skip p => simp [blksOf] at h
  | stop p => simp [blksOf] at h
  | mark p y => simp [blksOf] at h
  | choose p b =>
    obtain ⟨h1, h2⟩ := bls_sub b x h
    exact ⟨by simp only [Sm.sz]; omega, fun q => by simp only [Sm.okS] at q; exact h2 q⟩
  | loop p b =>
    simp only [blksOf, List.mem_singleton] at h
    subst h
    exact ⟨by simp only [Sm.sz]; omega, fun q => by simpa [Sm.okS] using q⟩
  | iff p l r eq t e =>
    cases e with
    | none =>
      simp only [blksOf, List.mem_singleton] at h
      subst h
      exact ⟨by simp only [Sm.sz]; omega, fun q => by simp only [Sm.okS] at q; exact q.2.2.1⟩
    | some q b =>
      simp only [blksOf, List.mem_cons, List.not_mem_nil, or_false] at h
      rcases h with rfl | rfl
      · exact ⟨by simp only [Sm.sz]; omega, fun q => by simp only [Sm.okS] at q; exact q.2.2.1⟩
      · exact ⟨by simp only [Sm.sz, Els.sz]; omega, fun q => by simp only [Sm.okS, Els.okS] at q; exact q.2.2.2⟩
  | whil p l r eq b =>
    simp only [blksOf, List.mem_singleton] at h
    subst h
    exact ⟨by simp only [Sm.sz]; omega, fun q => by simp only [Sm.okS] at q; exact q.2.2⟩
theorem sms_sub : ∀ (l : Sms) (s : Sm), s ∈ l.toL → s.sz < l.sz ∧ (l.okS → s.okS)
  | .nil, s, h => by simp [Sms.toL] at h
  | .cons x r, s, h => by
    simp only [Sms.toL, List.mem_cons] at h
    rcases h with rfl | h
    · exact ⟨by simp only [Sms.sz]; omega, fun q => by simp only [Sms.okS] at q; exact q.1⟩
    · obtain ⟨h1, h2⟩ := sms_sub r s h
      exact ⟨by simp only [Sms.sz]; omega, fun q => by simp only [Sms.okS] at q; exact h2 q.2⟩
theorem SmsAre.get {w : World} {B : Nat} : ∀ (l : Sms) (vs : List Value) (i : Nat) (s : Sm), SmsAre w B l vs → l.toL[i]? = some s → ∃ v, vs[i]? = some v ∧ SmIs w B s v
  | .nil, vs, i, s, h, hi => by simp [Sms.toL] at hi
  | .cons x r, vs, 0, s, h, hi => by
    simp only [SmsAre] at h
    obtain ⟨v, us, rfl, h2, h3⟩ := h
    simp only [Sms.toL, List.getElem?_cons_zero, Option.some.injEq] at hi
    subst hi
    exact ⟨v, rfl, h2⟩
  | .cons x r, vs, i + 1, s, h, hi => by
    simp only [SmsAre] at h
    obtain ⟨v, us, rfl, h2, h3⟩ := h
    obtain ⟨v', q1, q2⟩ := SmsAre.get r us i s h3 (by simpa [Sms.toL] using hi)
    exact ⟨v', by simpa using q1, q2⟩
theorem SmsAre.len {w : World} {B : Nat} : ∀ (l : Sms) (vs : List Value), SmsAre w B l vs → vs.length = l.toL.length
  | .nil, vs, h => by simp only [SmsAre] at h; subst h; rfl
  | .cons x r, vs, h => by
    simp only [SmsAre] at h
    obtain ⟨v, us, rfl, h2, h3⟩ := h
    simp [Sms.toL, SmsAre.len r us h3]
theorem flat_take_le {α : Type} (f : α → List UInt8) (l : List α) (k : Nat) : ((l.take k).flatMap f).length ≤ (l.flatMap f).length := by
  conv => rhs; rw [← List.take_append_drop k l]
  rw [List.flatMap_append, List.length_append]
  omega
theorem flat_take_succ {α : Type} (f : α → List UInt8) {l : List α} {k : Nat} {x : α} (h : l[k]? = some x) : (l.take (k + 1)).flatMap f = (l.take k).flatMap f ++ f x := by
  rw [List.take_add_one, h, List.flatMap_append]
  simp
theorem rows_take_succ (ah wd : List UInt8) {l : List Sms} {k : Nat} {x : Sms} (h : l[k]? = some x) : prRows ah wd 0 (l.take (k + 1)) = prRows ah wd 0 (l.take k) ++ prRw ah wd k x := by
  have hk : k < l.length := (List.getElem?_eq_some_iff.1 h).1
  rw [List.take_add_one, h]
  simp only [Option.toList_some]
  rw [prRows_snoc, List.length_take, Nat.min_eq_left (by omega), Nat.zero_add]
theorem prRows_app (ah wd : List UInt8) : ∀ (a b : List Sms) (j : Nat), prRows ah wd j (a ++ b) = prRows ah wd j a ++ prRows ah wd (j + a.length) b
  | [], b, j => by simp [prRows]
  | x :: r, b, j => by
    simp only [List.cons_append, prRows, prRows_app ah wd r b (j + 1), List.append_assoc, List.length_cons]
    rw [show j + 1 + r.length = j + (r.length + 1) by omega]
theorem rows_take_le (ah wd : List UInt8) (l : List Sms) (k : Nat) : (prRows ah wd 0 (l.take k)).length ≤ (prRows ah wd 0 l).length := by
  conv => rhs; rw [← List.take_append_drop k l]
  rw [prRows_app, List.length_append]
  omega
end Go.Proofs.YtlklijpjacmgpaaGreatDoor
