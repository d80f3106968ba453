/- Lines: the closure that lays a line behind the others; What Lines tells, plain; and that it hangs on the tokens' kinds and texts alone, but for places; Lines in lists; how long; blocks with their places. -/
import Derived.Test.YtlklijpjacmgpaaGreatDoorNC
import Derived.Maps.AppendAt
import Derived.Test.YtlklijpjacmgpaaGreatDoorNH
namespace Go.Proofs.YtlklijpjacmgpaaGreatDoor
open Go.RowKit
set_option linter.unusedVariables false
set_option linter.unusedSimpArgs false
attribute [local go_sem ↓] Go.wp_at_zero Go.wp_at_succ

/-- a line: its kind, how deep it stands, its head, its place -/
structure Ln where
  kind : Int
  depth : Nat
  text : List UInt8
  at_ : Pl
def lnC (x : Ln) : List Value := [.int .i64 x.kind, .int .i64 x.depth, .string ⟨x.text.toArray⟩, .int .i64 x.at_.b, .int .i64 x.at_.g, .int .i64 x.at_.l, .int .i64 x.at_.c]
def lnsC (l : List Ln) : List Value := l.flatMap lnC
def LnOwn (w : World) (B : Nat) (v : Value) (l : List Ln) : Prop := w.ownsRow B 51 7 v l.length (lnsC l)
def outO (v : Value) : Obj := .cells #[v] 41 (0, 0)
def depO (d : Nat) : Obj := .cells #[.int .i64 d] 3 (0, 0)
theorem lnC_one (x : Ln) : ∀ u ∈ lnC x, u.oneCell' = true := by
  intro u hu
  simp only [lnC, List.mem_cons, List.not_mem_nil, or_false] at hu
  rcases hu with rfl | rfl | rfl | rfl | rfl | rfl | rfl <;> rfl
theorem lnsC_snoc (l : List Ln) (x : Ln) : lnsC (l ++ [x]) = lnsC l ++ lnC x := by simp [lnsC]
theorem info_line : (Tryz.prog.info? 51).map (fun i => (i.zero, i.size, i.bytes)) = some (some (.agg #[.int .i64 0, .int .i64 0, .string ⟨#[]⟩, .int .i64 0, .int .i64 0, .int .i64 0, .int .i64 0]), 7, 64) := by kernel_rfl
set_option maxRecDepth 100000 in
set_option maxHeartbeats 4000000 in
theorem lines1_calls {w : World} {B bo bd : Nat} {v : Value} {l : List Ln} {x : Ln} (ho : LnOwn w B v l) (hbo : Blk w bo (outO v)) (hbd : Blk w bd (depO x.depth)) (hne : bo ≠ bd) (hl : l.length ≤ 100000) (hB : B ≤ w.heap.size) :
    Calls Tryz.prog 82 #[.int .i64 x.kind, .string ⟨x.text.toArray⟩, .agg (plA x.at_), .pointer (some ⟨bo, 0, none⟩), .pointer (some ⟨bd, 0, none⟩)] w fun e w' =>
      e = .returned (.tuple #[]) ∧ ∃ v', LnOwn w' B v' (l ++ [x]) ∧ Blk w' bo (outO v') ∧ Fr (fun j => j = bo ∨ v.ownBlock = some j) w w' ∧ (∀ k, v'.ownBlock = some k → v.ownBlock = some k ∨ w.heap.size ≤ k) := by
  obtain ⟨i0, hi, hz0, hz1, hz2⟩ := info_parts info_line
  obtain ⟨a, cap, rfl⟩ := own_form ho
  have ho' : w.ownsRow B 51 7 (.slice a l.length cap) l.length (lnsC l) := ho
  have R := Blk.all hbo
  have Z := Blk.frees hbo
  have R2 := Blk.all hbd
  have Z2 := Blk.frees hbd
  have hlt1 := hbo.lt
  have hlt2 := hbd.lt
  go_enter Tryz.func82, Tryz.ntmps82
  go_upto_region 1 with (fail)
  have hb1 := hbo.alloc (.cells (plA x.at_) 26 (0, 0))
  have hb2 := hbd.alloc (.cells (plA x.at_) 26 (0, 0))
  have hb3 := Blk.new w (plO x.at_)
  have ho1 := ho'.alloc (.cells (plA x.at_) 26 (0, 0))
  have hf1 : Fr No w (w.alloc (.cells (plA x.at_) 26 (0, 0))) := (Fr.refl No w).alloc _
  have hs1 : (w.alloc (.cells (plA x.at_) 26 (0, 0))).heap.size = w.heap.size + 1 := by simp
  change Blk (w.alloc (.cells (plA x.at_) 26 (0, 0))) w.heap.size (plO x.at_) at hb3
  clear R Z R2 Z2
  generalize w.alloc (.cells (plA x.at_) 26 (0, 0)) = w1 at *
  generalize hg : w.heap.size = g at *
  have HG := Lib.hid hg
  clear hg
  have R := Blk.all hb1
  have Z := Blk.frees hb1
  have R2 := Blk.all hb2
  have R3 := Blk.all hb3
  have hlt3 := hb3.lt
  have HS := Lib.hid hs1
  clear hs1
  go_wp2_with ((at_builtin; go_loud (refine wpList_append_own_at _ rfl _ _ 41 rfl B 51 i0 (.agg #[.int .i64 0, .int .i64 0, .string ⟨#[]⟩, .int .i64 0, .int .i64 0, .int .i64 0, .int .i64 0]) 7 64 Tryz.underlying41 hi hz0 hz1 hz2 rfl (by decide) _ _ _ rfl (ho1.alloc _) ⟨w1.heap.size, 0, none⟩ 1 1 (lnC x) rfl rfl ?c1 ?c2 ?c3 ?c4 ?c5 ?_; (case c1 => exact new_row _ _ _); (case c2 => exact lnC_one _); (case c3 => (unfold maxLen; omega)); (case c4 => omega); (case c5 => (have := HS.out; simp; omega)); intro v6 w6 hown6 hgr6 _ hat6; obtain ⟨a6, c6, rfl⟩ := own_form hown6; have f16 : Fr (fun j => (Value.slice a l.length cap).ownBlock = some j) w1 w6 := (((Fr.refl _ w1).alloc _).grown hgr6 (fun j hj _ => hj)); have hb6 := hb1.fr f16 (fun e => own_ne ho1 hb1 (by decide) e); have R6 := Blk.all hb6; have Z6 := Blk.frees hb6)))
  go_end0
  have hfk := (Fr.refl (· = bo) w6).setCell (a := ⟨bo, 0, none⟩) (.slice a6 (l.length + 1) c6) (fun _ => rfl)
  refine ⟨rfl, .slice a6 (l.length + 1) c6, ?_, ?_, ?_, ?_⟩
  · unfold LnOwn
    rw [lnsC_snoc, List.length_append]
    exact own_fr hown6 hfk (fun k hk e => own_ne hown6 hb6 (by decide) (e ▸ hk))
  · exact hb6.setOff 0 _
  · exact ((Fr.ofNo hf1).call f16 (fun k _ e => Or.inr e)).call hfk (fun k _ e => Or.inl e)
  · intro k hk
    rcases hat6 with h6 | h6
    · exact Or.inl (h6 ▸ hk)
    · rw [h6] at hk
      have := HS.out
      have := HG.out
      simp at hk
      exact Or.inr (by omega)
set_option maxRecDepth 100000 in
set_option maxHeartbeats 2000000 in
theorem place_calls {w : World} (p : Pl) : Calls Tryz.prog 180 #[.agg (plA p)] w fun e w' => e = .returned (.agg (plA p)) ∧ Fr No w w' := by
  go_enter Tryz.func180, Tryz.ntmps180
  unfold plA
  go_wp2_with fail
  have hb := Blk.new (w.alloc (.cells (plA p) 160 (0, 0))) (plO p)
  rw [show (w.alloc (.cells (plA p) 160 (0, 0))).heap.size = w.heap.size + 1 by simp] at hb
  exact bodyPost_ret (results_c rfl _ _ (w.heap.size + 1) (plA p) rfl (load_pl hb rfl)) rfl ⟨rfl, ((Fr.refl No w).alloc _).alloc _⟩
end Go.Proofs.YtlklijpjacmgpaaGreatDoor

namespace Go.Proofs.YtlklijpjacmgpaaGreatDoor
open Go
set_option linter.unusedVariables false
set_option linter.unusedSimpArgs false

def plOf : Sm → Pl
  | .set p _ _ _ => p
  | .skip p => p
  | .stop p => p
  | .mark p _ => p
  | .choose p _ => p
  | .loop p _ => p
  | .iff p _ _ _ _ _ => p
  | .whil p _ _ _ _ => p
mutual
def lnSm (d : Nat) : Sm → List Ln
  | .set p k x e => [⟨kdS (.set p k x e), d, hdS (.set p k x e), p⟩]
  | .skip p => [⟨kdS (.skip p), d, skip_, p⟩]
  | .stop p => [⟨kdS (.stop p), d, stop_, p⟩]
  | .mark p x => [⟨kdS (.mark p x), d, hdS (.mark p x), p⟩]
  | .choose p b => ⟨kdS (.choose p b), d, choose_, p⟩ :: lnBl d 0 b
  | .loop p b => ⟨kdS (.loop p b), d, loop_, p⟩ :: lnSms (d + 1) b
  | .iff p l r eq t e => ⟨kdS (.iff p l r eq t e), d, hdS (.iff p l r eq t e), p⟩ :: (lnSms (d + 1) t ++ lnEl d e)
  | .whil p l r eq b => ⟨kdS (.whil p l r eq b), d, hdS (.whil p l r eq b), p⟩ :: lnSms (d + 1) b
def lnSms (d : Nat) : Sms → List Ln
  | .nil => []
  | .cons s r => lnSm d s ++ lnSms d r
def lnBl (d j : Nat) : Bls → List Ln
  | .nil => []
  | .cons p b r => (if j = 0 then [] else [⟨8, d, or_, p⟩]) ++ lnSms (d + 1) b ++ lnBl d (j + 1) r
def lnEl (d : Nat) : Els → List Ln
  | .none => []
  | .some p b => ⟨11, d, else_, p⟩ :: lnSms (d + 1) b
end
/-- a program's lines -/
def lnS (g : Pg) : List Ln := ⟨1, 0, dcS g.begins, g.at_⟩ :: lnSms 0 g.body
def Ln.no (x : Ln) : Ln := ⟨x.kind, x.depth, x.text, start⟩
def lnNo (l : List Ln) : List Ln := l.map Ln.no
theorem lnNo_app (a b : List Ln) : lnNo (a ++ b) = lnNo a ++ lnNo b := by simp [lnNo]
theorem lnNo_cons (x : Ln) (b : List Ln) : lnNo (x :: b) = x.no :: lnNo b := rfl
theorem kd_no (s : Sm) : kdS s.no = kdS s := by
  cases s with
  | set p v x e => cases e <;> rfl
  | _ => rfl
mutual
theorem lnSm_no (d : Nat) : ∀ s : Sm, lnNo (lnSm d s.no) = lnNo (lnSm d s)
  | .set p v x e => by have h := hd_no (.set p v x e); have k := kd_no (.set p v x e); simp only [Sm.no] at h k ⊢; simp only [lnSm, h, k]; rfl
  | .skip p => rfl
  | .stop p => rfl
  | .mark p x => rfl
  | .choose p b => by have k := kd_no (.choose p b); simp only [Sm.no] at k ⊢; simp only [lnSm, k, lnNo_cons, lnBl_no d 0 b, Ln.no]
  | .loop p b => by have k := kd_no (.loop p b); simp only [Sm.no] at k ⊢; simp only [lnSm, k, lnNo_cons, lnSms_no (d + 1) b, Ln.no]
  | .iff p l r eq t e => by
    have h := hd_no (.iff p l r eq t e)
    have k := kd_no (.iff p l r eq t e)
    simp only [Sm.no] at h k ⊢
    simp only [lnSm, h, k, lnNo_cons, lnNo_app, lnSms_no (d + 1) t, lnEl_no d e, Ln.no]
  | .whil p l r eq b => by
    have h := hd_no (.whil p l r eq b)
    have k := kd_no (.whil p l r eq b)
    simp only [Sm.no] at h k ⊢
    simp only [lnSm, h, k, lnNo_cons, lnSms_no (d + 1) b, Ln.no]
theorem lnSms_no (d : Nat) : ∀ s : Sms, lnNo (lnSms d s.no) = lnNo (lnSms d s)
  | .nil => rfl
  | .cons s r => by simp only [Sms.no, lnSms, lnNo_app, lnSm_no d s, lnSms_no d r]
theorem lnBl_no (d j : Nat) : ∀ s : Bls, lnNo (lnBl d j s.no) = lnNo (lnBl d j s)
  | .nil => rfl
  | .cons p b r => by
    simp only [Bls.no, lnBl, lnNo_app, lnSms_no (d + 1) b, lnBl_no d (j + 1) r]
    split <;> rfl
theorem lnEl_no (d : Nat) : ∀ s : Els, lnNo (lnEl d s.no) = lnNo (lnEl d s)
  | .none => rfl
  | .some p b => by simp only [Els.no, lnEl, lnNo_cons, lnSms_no (d + 1) b, Ln.no]
end
theorem lnS_no (g : Pg) : lnNo (lnS g.no) = lnNo (lnS g) := by
  unfold lnS
  simp only [lnNo_cons, Pg.no, lnSms_no 0 g.body, Ln.no]
theorem lnS_same {g g' : Pg} (h : g'.no = g.no) : lnNo (lnS g') = lnNo (lnS g) := by rw [← lnS_no g', h, lnS_no]
/-- LangSigns, plain: what is written with other signs and blanks is read as the same program, but for places; it is printed as the same text -/
theorem signs_read (f : Nat → Bool) (k : Nat → Nat) {s : List UInt8} {g : Pg} (h : parseS s = .ok g) :
    ∃ toks, scanS s = .ok toks ∧ ((writtenT f k 0 toks).length ≤ 4096 → ∃ g', parseS (writtenT f k 0 toks) = .ok g' ∧ pgS g' = pgS g ∧ lnNo (lnS g') = lnNo (lnS g)) := by
  have h0 := h
  unfold parseS at h
  cases hs : scanS s with
  | bad n p => rw [hs] at h; cases h
  | ok toks =>
    refine ⟨toks, rfl, fun hl => ?_⟩
    obtain ⟨l', h1, h2⟩ := written_law f k hs hl
    obtain ⟨g', h3, h4⟩ := parse_kt hs h1 h2 h0
    exact ⟨g', h3, pg_same h4, lnS_same h4⟩
end Go.Proofs.YtlklijpjacmgpaaGreatDoor

namespace Go.Proofs.YtlklijpjacmgpaaGreatDoor
open Go Go.RowKit
set_option linter.unusedVariables false
set_option linter.unusedSimpArgs false

theorem lnSms_flat (d : Nat) : ∀ l : Sms, lnSms d l = l.toL.flatMap (lnSm d)
  | .nil => rfl
  | .cons s r => by simp only [lnSms, Sms.toL, List.flatMap_cons, lnSms_flat d r]
def Bls.toP : Bls → List (Pl × Sms)
  | .nil => []
  | .cons p b r => (p, b) :: r.toP
def lnRw (d j : Nat) (x : Pl × Sms) : List Ln := (if j = 0 then [] else [⟨8, d, or_, x.1⟩]) ++ lnSms (d + 1) x.2
def lnRows (d : Nat) : Nat → List (Pl × Sms) → List Ln
  | _, [] => []
  | j, x :: r => lnRw d j x ++ lnRows d (j + 1) r
theorem lnRows_snoc (d : Nat) : ∀ (l : List (Pl × Sms)) (j : Nat) (x : Pl × Sms), lnRows d j (l ++ [x]) = lnRows d j l ++ lnRw d (j + l.length) x
  | [], j, x => by simp [lnRows]
  | y :: r, j, x => by
    simp only [List.cons_append, lnRows, lnRows_snoc d r (j + 1) x, List.append_assoc, List.length_cons]
    rw [show j + 1 + r.length = j + (r.length + 1) by omega]
theorem lnRows_succ (d : Nat) {l : List (Pl × Sms)} {k : Nat} {x : Pl × Sms} (h : l[k]? = some x) : lnRows d 0 (l.take (k + 1)) = lnRows d 0 (l.take k) ++ lnRw d k x := by
  have hk : k < l.length := by
    rw [List.getElem?_eq_some_iff] at h
    exact h.1
  rw [List.take_add_one, h]
  show lnRows d 0 (l.take k ++ [x]) = _
  rw [lnRows_snoc, List.length_take, Nat.min_eq_left (Nat.le_of_lt hk), Nat.zero_add]
theorem lnBl_rows (d : Nat) : ∀ (b : Bls) (j : Nat), lnBl d j b = lnRows d j b.toP
  | .nil, j => by simp [lnBl, lnRows, Bls.toP]
  | .cons p b r, j => by simp only [lnBl, lnRows, Bls.toP, lnRw, lnBl_rows d r (j + 1)]
theorem BlsAre.getP {w : World} {B : Nat} : ∀ (l : Bls) (vs : List Value) (i : Nat) (x : Pl × Sms), BlsAre w B l vs → l.toP[i]? = some x → ∃ (a : Option Addr) (n c : Nat) (bs : List Value), vs[i * 5]? = some (.int .i64 x.1.b) ∧ vs[i * 5 + 1]? = some (.int .i64 x.1.g) ∧ vs[i * 5 + 2]? = some (.int .i64 x.1.l) ∧ vs[i * 5 + 3]? = some (.int .i64 x.1.c) ∧ vs[i * 5 + 4]? = some (.slice a n c) ∧ w.ownsRow B 141 1 (.slice a n c) n bs ∧ SmsAre w B x.2 bs
  | .nil, vs, i, b, h, hi => by simp [Bls.toP] at hi
  | .cons p y r, vs, 0, b, h, hi => by
    simp only [BlsAre] at h
    obtain ⟨a, n, c, bs, us, h1, h2, h3, h4⟩ := h
    simp only [Bls.toP, List.getElem?_cons_zero, Option.some.injEq] at hi
    subst hi
    exact ⟨a, n, c, bs, by rw [h1]; rfl, by rw [h1]; rfl, by rw [h1]; rfl, by rw [h1]; rfl, by rw [h1]; rfl, h2, h3⟩
  | .cons p y r, vs, i + 1, b, h, hi => by
    simp only [BlsAre] at h
    obtain ⟨a, n, c, bs, us, h1, h2, h3, h4⟩ := h
    obtain ⟨a', n', c', bs', q0, q1, q2, q3, q4, q5, q6⟩ := BlsAre.getP r us i b h4 (by simpa [Bls.toP] using hi)
    have e : ∀ k, (([.int .i64 p.b, .int .i64 p.g, .int .i64 p.l, .int .i64 p.c, .slice a n c] : List Value) ++ us)[(i + 1) * 5 + k]? = us[i * 5 + k]? := by
      intro k
      rw [List.getElem?_append_right (by simp; omega)]
      congr 1
      simp
      omega
    have e0 := e 0
    simp only [Nat.add_zero] at e0
    exact ⟨a', n', c', bs', by rw [h1, e0]; exact q0, by rw [h1, e]; exact q1, by rw [h1, e]; exact q2, by rw [h1, e]; exact q3, by rw [h1, e]; exact q4, q5, q6⟩
theorem BlsAre.lenP {w : World} {B : Nat} : ∀ (l : Bls) (vs : List Value), BlsAre w B l vs → vs.length = l.toP.length * 5
  | .nil, vs, h => by simp only [BlsAre] at h; subst h; rfl
  | .cons p x r, vs, h => by
    simp only [BlsAre] at h
    obtain ⟨a, n, c, bs, us, h1, h2, h3, h4⟩ := h
    rw [h1]
    simp [Bls.toP, BlsAre.lenP r us h4]
    omega
mutual
theorem lnSm_len (d : Nat) : ∀ s : Sm, (lnSm d s).length ≤ s.sz
  | .set p k x e => by simp [lnSm, Sm.sz]
  | .skip p => by simp [lnSm, Sm.sz]
  | .stop p => by simp [lnSm, Sm.sz]
  | .mark p x => by simp [lnSm, Sm.sz]
  | .choose p b => by have := lnBl_len d 0 b; simp only [lnSm, Sm.sz, List.length_cons]; omega
  | .loop p b => by have := lnSms_len (d + 1) b; simp only [lnSm, Sm.sz, List.length_cons]; omega
  | .iff p l r eq t e => by have := lnSms_len (d + 1) t; have := lnEl_len d e; simp only [lnSm, Sm.sz, List.length_cons, List.length_append]; omega
  | .whil p l r eq b => by have := lnSms_len (d + 1) b; simp only [lnSm, Sm.sz, List.length_cons]; omega
theorem lnSms_len (d : Nat) : ∀ l : Sms, (lnSms d l).length ≤ l.sz
  | .nil => by simp [lnSms]
  | .cons s r => by have := lnSm_len d s; have := lnSms_len d r; simp only [lnSms, Sms.sz, List.length_append]; omega
theorem lnBl_len (d j : Nat) : ∀ l : Bls, (lnBl d j l).length ≤ l.sz
  | .nil => by simp [lnBl]
  | .cons p b r => by
    have := lnSms_len (d + 1) b
    have := lnBl_len d (j + 1) r
    simp only [lnBl, Bls.sz, List.length_append]
    split <;> simp <;> omega
theorem lnEl_len (d : Nat) : ∀ l : Els, (lnEl d l).length ≤ l.sz
  | .none => by simp [lnEl]
  | .some p b => by have := lnSms_len (d + 1) b; simp only [lnEl, Els.sz, List.length_cons]; omega
end
theorem ln_take (d : Nat) : ∀ (l : Sms) (i : Nat) (s : Sm), l.toL[i]? = some s → ((l.toL.take i).flatMap (lnSm d)).length + s.sz < l.sz
  | .nil, i, s, h => by simp [Sms.toL] at h
  | .cons x r, 0, s, h => by
    simp only [Sms.toL, List.getElem?_cons_zero, Option.some.injEq] at h
    subst h
    simp [Sms.sz]
    omega
  | .cons x r, i + 1, s, h => by
    have h1 := ln_take d r i s (by simpa [Sms.toL] using h)
    have h2 := lnSm_len d x
    simp only [Sms.toL, List.take_succ_cons, List.flatMap_cons, List.length_append, Sms.sz]
    omega
theorem ln_takeP (d : Nat) : ∀ (b : Bls) (q j : Nat) (x : Pl × Sms), b.toP[j]? = some x → (lnRows d q (b.toP.take j)).length + x.2.sz < b.sz ∧ (b.okS → x.2.okS)
  | .nil, q, j, x, h => by simp [Bls.toP] at h
  | .cons p y r, q, 0, x, h => by
    simp only [Bls.toP, List.getElem?_cons_zero, Option.some.injEq] at h
    subst h
    exact ⟨by simp [lnRows, Bls.sz]; omega, fun q => by simp only [Bls.okS] at q; exact q.1⟩
  | .cons p y r, q, j + 1, x, h => by
    obtain ⟨h1, h3⟩ := ln_takeP d r (q + 1) j x (by simpa [Bls.toP] using h)
    have h2 := lnSms_len (d + 1) y
    refine ⟨?_, fun q => by simp only [Bls.okS] at q; exact h3 q.2⟩
    simp only [Bls.toP, List.take_succ_cons, lnRows, List.length_append, Bls.sz, lnRw]
    split <;> simp <;> omega
/-- no line's head is too long -/
def LnB (l : List Ln) : Prop := ∀ x ∈ l, x.text.length ≤ 100000000
theorem LnB.app {a b : List Ln} : LnB (a ++ b) ↔ LnB a ∧ LnB b := by
  unfold LnB
  constructor
  · exact fun h => ⟨fun x hx => h x (List.mem_append_left _ hx), fun x hx => h x (List.mem_append_right _ hx)⟩
  · rintro ⟨h1, h2⟩ x hx
    rcases List.mem_append.mp hx with h | h
    · exact h1 x h
    · exact h2 x h
theorem LnB.cons {a : Ln} {b : List Ln} : LnB (a :: b) ↔ a.text.length ≤ 100000000 ∧ LnB b := by
  unfold LnB
  simp
theorem lnB_take (d : Nat) : ∀ (l : Sms) (i : Nat) (s : Sm), LnB (lnSms d l) → l.toL[i]? = some s → LnB (lnSm d s)
  | .nil, i, s, _, h => by simp [Sms.toL] at h
  | .cons x r, 0, s, hb, h => by
    simp only [Sms.toL, List.getElem?_cons_zero, Option.some.injEq] at h
    subst h
    simp only [lnSms] at hb
    exact (LnB.app.mp hb).1
  | .cons x r, i + 1, s, hb, h => by
    simp only [lnSms] at hb
    exact lnB_take d r i s (LnB.app.mp hb).2 (by simpa [Sms.toL] using h)
theorem lnB_takeP (d : Nat) : ∀ (b : Bls) (q j : Nat) (x : Pl × Sms), LnB (lnBl d q b) → b.toP[j]? = some x → LnB (lnSms (d + 1) x.2)
  | .nil, q, j, x, _, h => by simp [Bls.toP] at h
  | .cons p y r, q, 0, x, hb, h => by
    simp only [Bls.toP, List.getElem?_cons_zero, Option.some.injEq] at h
    subst h
    simp only [lnBl] at hb
    exact (LnB.app.mp (LnB.app.mp hb).1).2
  | .cons p y r, q, j + 1, x, hb, h => by
    simp only [lnBl] at hb
    exact lnB_takeP d r (q + 1) j x (LnB.app.mp hb).2 (by simpa [Bls.toP] using h)
/-- a head is part of what is printed -/
def LnT (l : List Ln) (n : Nat) : Prop := ∀ x ∈ l, x.text.length ≤ n
theorem LnT.app {a b : List Ln} {n m : Nat} (h1 : LnT a n) (h2 : LnT b m) {k : Nat} (hk : n + m ≤ k) : LnT (a ++ b) k := fun x hx => by
  rcases List.mem_append.mp hx with h | h
  · have := h1 x h; omega
  · have := h2 x h; omega
theorem LnT.le {a : List Ln} {n m : Nat} (h1 : LnT a n) (h : n ≤ m) : LnT a m := fun x hx => Nat.le_trans (h1 x hx) h
theorem LnT.one (a : Ln) {n : Nat} (h : a.text.length ≤ n) : LnT [a] n := fun x hx => by simp only [List.mem_singleton] at hx; subst hx; exact h
theorem LnT.cons {a : Ln} {b : List Ln} {n m : Nat} (h1 : a.text.length ≤ n) (h2 : LnT b m) {k : Nat} (hk : n + m ≤ k) : LnT (a :: b) k := fun x hx => by
  rcases List.mem_cons.mp hx with h | h
  · subst h; omega
  · have := h2 x h; omega
mutual
theorem lnSm_text (d : Nat) (ah : List UInt8) : ∀ s : Sm, LnT (lnSm d s) (prSm ah s).length
  | .set p k x e => by simp only [lnSm, prSm]; exact LnT.one _ (by simp; omega)
  | .skip p => by simp only [lnSm, prSm]; exact LnT.one _ (by simp; omega)
  | .stop p => by simp only [lnSm, prSm]; exact LnT.one _ (by simp; omega)
  | .mark p x => by simp only [lnSm, prSm]; exact LnT.one _ (by simp; omega)
  | .choose p .nil => by simp only [lnSm, prSm, lnBl]; exact LnT.one _ (by simp; omega)
  | .choose p (.cons q b r) => by
    have h1 := lnSms_text (d + 1) (ah ++ [32, 32]) b
    have h2 := lnBl_text d (0 + 1) ah 1 (by omega) r
    simp only [lnSm, prSm, lnBl, if_true, List.nil_append]
    exact LnT.cons (Nat.le_refl _) (LnT.app h1 h2 (Nat.le_refl _)) (by simp; omega)
  | .loop p b => by
    have h1 := lnSms_text (d + 1) (ah ++ [32, 32]) b
    simp only [lnSm, prSm]
    exact LnT.cons (Nat.le_refl _) h1 (by simp; omega)
  | .iff p l r eq t e => by
    have h1 := lnSms_text (d + 1) (ah ++ [32, 32]) t
    have h2 := lnEl_text d ah e
    simp only [lnSm, prSm]
    exact LnT.cons (Nat.le_refl _) (LnT.app h1 h2 (Nat.le_refl _)) (by simp; omega)
  | .whil p l r eq b => by
    have h1 := lnSms_text (d + 1) (ah ++ [32, 32]) b
    simp only [lnSm, prSm]
    exact LnT.cons (Nat.le_refl _) h1 (by simp; omega)
theorem lnSms_text (d : Nat) (ah : List UInt8) : ∀ l : Sms, LnT (lnSms d l) (prSms ah l).length
  | .nil => by simp only [lnSms]; intro x hx; simp at hx
  | .cons s r => by
    simp only [lnSms, prSms]
    exact LnT.app (lnSm_text d ah s) (lnSms_text d ah r) (by simp)
theorem lnBl_text (d j : Nat) (ah : List UInt8) (i : Nat) (hi : 0 < i) : ∀ l : Bls, LnT (lnBl d j l) (prBl ah i l).length
  | .nil => by simp only [lnBl]; intro x hx; simp at hx
  | .cons p b r => by
    have h1 := lnSms_text (d + 1) (ah ++ [32, 32]) b
    have h2 := lnBl_text d (j + 1) ah (i + 1) (by omega) r
    have h0 : LnT (if j = 0 then [] else [⟨8, d, or_, p⟩]) or_.length := by
      split
      · intro x hx; simp at hx
      · exact LnT.one _ (Nat.le_refl _)
    simp only [lnBl, prBl]
    rw [if_neg (show ¬ i = 0 by omega)]
    exact LnT.app (LnT.app h0 h1 (Nat.le_refl _)) h2 (by simp; omega)
theorem lnEl_text (d : Nat) (ah : List UInt8) : ∀ l : Els, LnT (lnEl d l) (prEl ah l).length
  | .none => by simp only [lnEl]; intro x hx; simp at hx
  | .some p b => by
    have h1 := lnSms_text (d + 1) (ah ++ [32, 32]) b
    simp only [lnEl, prEl]
    exact LnT.cons (Nat.le_refl _) h1 (by simp; omega)
end
end Go.Proofs.YtlklijpjacmgpaaGreatDoor
