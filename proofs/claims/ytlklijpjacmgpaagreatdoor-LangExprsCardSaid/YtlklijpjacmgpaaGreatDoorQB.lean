/- The reference's parser: its memory; Word, fail, is, take, named, among. -/
import Derived.Test.YtlklijpjacmgpaaGreatDoorLE
import Derived.Test.YtlklijpjacmgpaaGreatDoorGf
import Derived.Test.YtlklijpjacmgpaaGreatDoorLO
namespace Go.Proofs.YtlklijpjacmgpaaGreatDoor
open Go.RowKit
set_option linter.unusedVariables false
set_option linter.unusedSimpArgs false
attribute [local go_sem ↓] Go.wp_at_zero Go.wp_at_succ

/-- a part of an expression, as the reference keeps it -/
structure XP where
  op : Int
  v : Nat
  a : Nat
  b : Nat
  num : Nat
/-- the reference's parser: how many tokens are taken, how many brackets are open, what is wrong and where, the parts -/
structure PS where
  i : Nat
  o : Int
  err : Int
  at_ : Pl
  parts : List XP
def psO (Lv Nv Mv : Value) (q : Nat) (s : PS) : Obj := .cells #[Lv, .int .i64 s.i, .int .i64 s.o, Nv, Mv, .pointer (some ⟨q, 0, none⟩), .int .i64 s.err, .int .i64 s.at_.b, .int .i64 s.at_.g, .int .i64 s.at_.l, .int .i64 s.at_.c] 75 (0, 0)
def pqO (Bv Tv Pv : Value) (p : Pl) : Obj := .cells #[Bv, Tv, Pv, .int .i64 p.b, .int .i64 p.g, .int .i64 p.l, .int .i64 p.c] 72 (0, 0)
def XsAre (w : World) (B : Nat) : List XP → List Value → Prop
  | [], vs => vs = []
  | x :: r, vs => ∃ a c us, vs = [.int .i64 x.op, .int .i64 x.v, .int .i64 x.a, .int .i64 x.b, .bool false, .slice a (dig 10000 x.num).length c] ++ us ∧ w.ownsRow B 3 1 (.slice a (dig 10000 x.num).length c) (dig 10000 x.num).length (i64s (dig 10000 x.num)) ∧ XsAre w B r us
/-- what a call of the parser's methods may change -/
def PCh (b q : Nat) (w : World) : Nat → Prop := fun j => j = b ∨ j = q ∨ ∃ cs fz, Blk w j (.cells cs 125 fz)
theorem own_nx {w : World} {B G : Nat} {e t : TypeId} {size : Nat} {v : Value} {n : Nat} {xs : List Value} {cs : Array Value} {fz : Nat × Nat} (h : w.ownsRow B e size v n xs) (hG : Blk w G (.cells cs t fz)) (ht : t ≠ e) : v.ownBlock ≠ some G := fun hk => by
  obtain ⟨cur, hc⟩ := own_obj h hk
  have h' : w.heap[G]? = _ := hG
  rw [hc] at h'
  simp only [Option.some.injEq, Obj.cells.injEq] at h'
  exact ht h'.2.1.symm
theorem XsAre.apart {S : Nat → Prop} {w w' : World} {B : Nat} (f : Fr S w w') (hS : ∀ k, B ≤ k → k < w.heap.size → S k → ∃ cs t fz, Blk w k (.cells cs t fz) ∧ t ≠ 3) : ∀ (l : List XP) (vs : List Value), XsAre w B l vs → XsAre w' B l vs
  | [], vs, h => h
  | x :: r, vs, ⟨a, c, us, h1, h2, h3⟩ => ⟨a, c, us, h1, own_fr h2 f (fun k hk e => by
      obtain ⟨cs, t, fz, hb, ht⟩ := hS k (h2.lt k hk).1 (h2.lt k hk).2 e
      exact own_nx h2 hb ht hk), XsAre.apart f hS r us h3⟩
structure PrM (w0 w : World) (b q : Nat) (Lv Nv Mv Bv Tv : Value) (pl : Pl) (toks : List Tok) (s : PS) : Prop where
  fr : Fr No w0 w
  hb : w0.heap.size ≤ b
  hq : w0.heap.size ≤ q
  ne : b ≠ q
  blk : Blk w b (psO Lv Nv Mv q s)
  pg : ∃ Pv us, Blk w q (pqO Bv Tv Pv pl) ∧ w.ownsRow w0.heap.size 125 6 Pv s.parts.length us ∧ XsAre w w0.heap.size s.parts us
  tk : w.ownsRow w0.heap.size 83 6 Lv toks.length (toksV toks)
  lt : s.i < toks.length
  le : toks.length ≤ 5000
  gd : Good toks
/-- the token that comes -/
def PS.here (toks : List Tok) (s : PS) : Tok := hereT (toks.drop s.i)
theorem here_get {toks : List Tok} {s : PS} (h : s.i < toks.length) : toks[s.i]? = some (s.here toks) := by
  unfold PS.here hereT
  rw [List.getElem?_eq_getElem h, List.drop_eq_getElem_cons h]
  rfl
theorem PrM.no {w0 w w' : World} {b q : Nat} {Lv Nv Mv Bv Tv : Value} {pl : Pl} {toks : List Tok} {s : PS} (h : PrM w0 w b q Lv Nv Mv Bv Tv pl toks s) (f : Fr No w w') : PrM w0 w' b q Lv Nv Mv Bv Tv pl toks s := by
  obtain ⟨Pv, us, h1, h2, h3⟩ := h.pg
  exact ⟨h.fr.callNo f, h.hb, h.hq, h.ne, h.blk.fr f (fun x => x), ⟨Pv, us, h1.fr f (fun x => x), own_fr h2 f (fun _ _ x => x), XsAre.apart f (fun _ _ _ e => e.elim) _ _ h3⟩, own_fr h.tk f (fun _ _ x => x), h.lt, h.le, h.gd⟩
/-- the parser's own block has changed -/
theorem PrM.set {w0 w w' : World} {b q : Nat} {Lv Nv Mv Bv Tv : Value} {pl : Pl} {toks : List Tok} {s s' : PS} (h : PrM w0 w b q Lv Nv Mv Bv Tv pl toks s) (f : Fr (· = b) w w') (hb : Blk w' b (psO Lv Nv Mv q s')) (hp : s'.parts = s.parts) (hi : s'.i < toks.length) : PrM w0 w' b q Lv Nv Mv Bv Tv pl toks s' := by
  obtain ⟨Pv, us, h1, h2, h3⟩ := h.pg
  have hbb := h.blk
  refine ⟨h.fr.call f (fun k hk e => by have := h.hb; have : k = b := e; omega), h.hb, h.hq, h.ne, hb, ⟨Pv, us, h1.fr f (fun e => h.ne e.symm), ?_, ?_⟩, own_fr h.tk f (fun k hk e => own_nx h.tk hbb (by decide) (e ▸ hk)), hi, h.le, h.gd⟩
  · rw [hp]; exact own_fr h2 f (fun k hk e => own_nx h2 hbb (by decide) (e ▸ hk))
  · rw [hp]; exact XsAre.apart f (fun k _ _ e => ⟨_, _, _, (show Blk w k _ from (show k = b from e) ▸ hbb), by decide⟩) _ _ h3
theorem Word_calls (x : List UInt8) (w : World) : Calls Tryz.prog 75 #[.string ⟨x.toArray⟩] w fun e w' => e = .returned (.bool (wordS x)) ∧ Fr No w w' := by
  obtain ⟨R, hR⟩ : ∃ R, wordS x = R := ⟨_, rfl⟩
  rw [hR]
  have HR := Lib.hid hR
  clear hR
  go_enter Tryz.func75, Tryz.ntmps75
  go_wp2_with fail
  all_goals (go_ret; exact ⟨by rw [← HR.out]; simp_all [wordS, words, vars_, any_, skip_, stop_, mark_, choose_, or_, loop_, if_, else_, while_], Fr.refl _ _⟩)
def PS.fail (toks : List Tok) (s : PS) (c : Int) : PS := if s.err = 0 then { s with err := c, at_ := (s.here toks).at_ } else s
/-- the token's cells -/
theorem PrM.tok {w0 w : World} {b q : Nat} {Lv Nv Mv Bv Tv : Value} {pl : Pl} {toks : List Tok} {s : PS} (h : PrM w0 w b q Lv Nv Mv Bv Tv pl toks s) : ∃ g c, Lv = .slice (some ⟨g, 0, none⟩) toks.length c ∧ g < w.heap.size ∧ g ≠ b ∧ g ≠ q ∧ TokAt w g (s.i * 6) (s.here toks) := by
  have hlt := h.lt
  have ho := h.tk
  rcases own_cases ho with ⟨_, h9, _⟩ | ⟨g, cap, e1, _, hgl, hcap⟩
  · omega
  · subst e1
    obtain ⟨Pv, us, h1, _, _⟩ := h.pg
    exact ⟨g, cap, rfl, hgl, fun e => own_nx ho h.blk (by decide) (e ▸ rfl), fun e => own_nx ho h1 (by decide) (e ▸ rfl), tok_at ho (here_get hlt)⟩
set_option maxRecDepth 100000 in
set_option maxHeartbeats 4000000 in
theorem fail_ref {w0 w : World} {b q : Nat} {Lv Nv Mv Bv Tv : Value} {pl : Pl} {toks : List Tok} {s : PS} (c : Int) (h : PrM w0 w b q Lv Nv Mv Bv Tv pl toks s) :
    Calls Tryz.prog 58 #[.pointer (some ⟨b, 0, none⟩), .int .i64 c] w fun e w' => e = .returned (.tuple #[]) ∧ PrM w0 w' b q Lv Nv Mv Bv Tv pl toks (s.fail toks c) := by
  obtain ⟨g, cL, rfl, hgl, hgb, hgq, ht⟩ := h.tok
  obtain ⟨t0, t1, t2, t3, t4, t5⟩ := ht
  have hle := h.le
  have hlt := h.lt
  have R := Blk.all h.blk
  have Z := Blk.frees h.blk
  have hbl := h.blk.lt
  have i1 : (0 : Int) ≤ (s.i : Int) := by omega
  have i2 : (s.i : Int) < (toks.length : Int) := by omega
  have H := Lib.hid h
  clear h
  by_cases he : s.err = 0
  · have hd : (s.err == 0) = true := by rw [he]; rfl
    have hf : s.fail toks c = { s with err := c, at_ := (s.here toks).at_ } := if_pos he
    rw [hf]
    obtain ⟨p, hp⟩ : ∃ p, (s.here toks).at_ = p := ⟨_, rfl⟩
    rw [hp] at t2 t3 t4 t5 ⊢
    go_enter Tryz.func58, Tryz.ntmps58
    go_upto_region 2 with (fail)
    have hk1 := (Fr.refl (· = b) w).setCell (a := ⟨b, 6, none⟩) (.int .i64 c) (fun _ => rfl)
    have hB1 := H.out.blk.setOff 6 (.int .i64 c)
    obtain ⟨w1, hw1⟩ : ∃ w1, w.setCell ⟨b, 6, none⟩ (.int .i64 c) = w1 := ⟨_, rfl⟩
    rw [hw1] at hk1 ⊢
    have hB2 : Blk w1 b (psO (.slice (some ⟨g, 0, none⟩) toks.length cL) Nv Mv q { s with err := c }) := hw1 ▸ hB1
    have t2' : w1.cell? ⟨g, s.i * 6 + 2, none⟩ = some (.int .i64 p.b) := by rw [← t2]; exact World.cell?_of_block (hk1.block g hgl hgb)
    have t3' : w1.cell? ⟨g, s.i * 6 + 3, none⟩ = some (.int .i64 p.g) := by rw [← t3]; exact World.cell?_of_block (hk1.block g hgl hgb)
    have t4' : w1.cell? ⟨g, s.i * 6 + 4, none⟩ = some (.int .i64 p.l) := by rw [← t4]; exact World.cell?_of_block (hk1.block g hgl hgb)
    have t5' : w1.cell? ⟨g, s.i * 6 + 5, none⟩ = some (.int .i64 p.c) := by rw [← t5]; exact World.cell?_of_block (hk1.block g hgl hgb)
    clear t0 t1 t2 t3 t4 t5 R Z hB1 hw1
    have R := Blk.all hB2
    have Z := Blk.frees hB2
    go_region
    all_goals go_end0
    have hk2 := ((((hk1.setCell (a := ⟨b, 7, none⟩) (.int .i64 p.b) (fun _ => rfl)).setCell (a := ⟨b, 8, none⟩) (.int .i64 p.g) (fun _ => rfl)).setCell (a := ⟨b, 9, none⟩) (.int .i64 p.l) (fun _ => rfl)).setCell (a := ⟨b, 10, none⟩) (.int .i64 p.c) (fun _ => rfl)).drew
    have hB3 := ((((hB2.setOff 7 (.int .i64 p.b)).setOff 8 (.int .i64 p.g)).setOff 9 (.int .i64 p.l)).setOff 10 (.int .i64 p.c)).drew
    exact ⟨rfl, H.out.set (s' := { s with err := c, at_ := p }) hk2 hB3 rfl H.out.lt⟩
  · have hd : (s.err == 0) = false := by rw [beq_eq_false_iff_ne]; exact he
    have hf : s.fail toks c = s := if_neg he
    rw [hf]
    go_enter Tryz.func58, Tryz.ntmps58
    go_wp2_with fail
    go_end0
    exact ⟨rfl, H.out⟩
/-- is the token this sign, or this word? -/
def isR (x : List UInt8) (t : Tok) : Bool := decide (t.kind = (if wordS x then 1 else 3)) && (t.text == x)
def tkO (t : Tok) : Obj := .cells #[.int .i64 t.kind, .string ⟨t.text.toArray⟩, .int .i64 t.at_.b, .int .i64 t.at_.g, .int .i64 t.at_.l, .int .i64 t.at_.c] 83 (0, 0)
set_option maxRecDepth 100000 in
set_option maxHeartbeats 4000000 in
theorem is_ref {w0 w : World} {b q : Nat} {Lv Nv Mv Bv Tv : Value} {pl : Pl} {toks : List Tok} {s : PS} (x : List UInt8) (h : PrM w0 w b q Lv Nv Mv Bv Tv pl toks s) :
    Calls Tryz.prog 37 #[.pointer (some ⟨b, 0, none⟩), .string ⟨x.toArray⟩] w fun e w' => e = .returned (.bool (isR x (s.here toks))) ∧ PrM w0 w' b q Lv Nv Mv Bv Tv pl toks s := by
  obtain ⟨g, cL, rfl, hgl, hgb, hgq, ht⟩ := h.tok
  obtain ⟨t0, t1, t2, t3, t4, t5⟩ := ht
  have hle := h.le
  have hlt := h.lt
  have R := Blk.all h.blk
  have Z := Blk.frees h.blk
  have hbl := h.blk.lt
  have i1 : (0 : Int) ≤ (s.i : Int) := by omega
  have i2 : (s.i : Int) < (toks.length : Int) := by omega
  have H := Lib.hid h
  clear h
  unfold isR
  obtain ⟨WD, hWD⟩ : ∃ WD, wordS x = WD := ⟨_, rfl⟩
  rw [hWD]
  obtain ⟨t, ht⟩ : ∃ t, s.here toks = t := ⟨_, rfl⟩
  rw [ht] at t0 t1 t2 t3 t4 t5 ⊢
  obtain ⟨RS, hRS⟩ : ∃ RS, (decide (t.kind = (if WD then 1 else 3)) && (t.text == x)) = RS := ⟨_, rfl⟩
  rw [hRS]
  have HW := Lib.hid hWD
  have HRS := Lib.hid hRS
  clear hWD ht hRS
  go_enter Tryz.func37, Tryz.ntmps37
  go_upto_region 1 with (fail)
  go_region
  have hN : Blk (w.alloc (tkO t)).drew w.heap.size (tkO t) := (Blk.new w (tkO t)).drew
  have hal : Fr No w (w.alloc (tkO t)).drew := ((Fr.refl No w).alloc (tkO t)).drew
  unfold tkO at hN hal
  have HN := Lib.hid (And.intro hN hal)
  clear hN hal R Z t0 t1 t2 t3 t4 t5
  go_wp2_with fail
  refine (Word_calls x _).mono ?_
  rintro e w1 ⟨rfl, hf1⟩
  rw [HW.out]
  have hN1 := HN.out.1.fr hf1 (fun x => x)
  have hP := H.out.no (HN.out.2.callNo hf1)
  have R := Blk.all hN1
  have hl1 := hN1.lt
  clear hf1 hN1
  cases WD with
  | true =>
    by_cases hk : t.kind = 1
    · have hd : (t.kind == 1) = true := by rw [hk]; rfl
      go_wp2_with fail
      go_ret
      exact ⟨by rw [← HRS.out]; simp [hk], hP⟩
    · have hd : (t.kind == 1) = false := by rw [beq_eq_false_iff_ne]; exact hk
      go_wp2_with fail
      go_ret
      exact ⟨by rw [← HRS.out]; simp [hk], hP⟩
  | false =>
    by_cases hk : t.kind = 3
    · have hd : (t.kind == 3) = true := by rw [hk]; rfl
      go_wp2_with fail
      go_ret
      exact ⟨by rw [← HRS.out]; simp [hk], hP⟩
    · have hd : (t.kind == 3) = false := by rw [beq_eq_false_iff_ne]; exact hk
      go_wp2_with fail
      go_ret
      exact ⟨by rw [← HRS.out]; simp [hk], hP⟩
theorem good_next : ∀ {toks : List Tok} (g : Good toks) (i : Nat) (h : i < toks.length), (toks[i]).kind ≠ 0 → i + 1 < toks.length
  | _, .last p, i, h, hk => by
    simp only [List.length_singleton] at h
    obtain rfl : i = 0 := by omega
    exact absurd rfl hk
  | _, .cons (x := x) (r := r) h1 h2 h3 h4 g, 0, h, hk => by
    have := g.pos
    simp only [List.length_cons]
    omega
  | _, .cons (x := x) (r := r) h1 h2 h3 h4 g, i + 1, h, hk => by
    have := good_next g i (by simpa using h) (by simpa using hk)
    simp only [List.length_cons]
    omega
theorem PrM.next {w0 w : World} {b q : Nat} {Lv Nv Mv Bv Tv : Value} {pl : Pl} {toks : List Tok} {s : PS} (h : PrM w0 w b q Lv Nv Mv Bv Tv pl toks s) (hk : (s.here toks).kind ≠ 0) : s.i + 1 < toks.length := by
  have h1 := here_get h.lt
  rw [List.getElem?_eq_getElem h.lt, Option.some.injEq] at h1
  exact good_next h.gd s.i h.lt (by rw [h1]; exact hk)
theorem isR_kind {x : List UInt8} {t : Tok} (h : isR x t = true) : t.kind ≠ 0 := by
  unfold isR at h
  simp only [Bool.and_eq_true, decide_eq_true_eq] at h
  rw [h.1]
  split <;> decide
def PS.pass (s : PS) : PS := { s with i := s.i + 1 }
def PS.take (toks : List Tok) (s : PS) (x : List UInt8) : PS := if s.err ≠ 0 then s else if isR x (s.here toks) then s.pass else s.fail toks 80
set_option maxRecDepth 100000 in
set_option maxHeartbeats 4000000 in
theorem take_ref {w0 w : World} {b q : Nat} {Lv Nv Mv Bv Tv : Value} {pl : Pl} {toks : List Tok} {s : PS} (x : List UInt8) (h : PrM w0 w b q Lv Nv Mv Bv Tv pl toks s) :
    Calls Tryz.prog 36 #[.pointer (some ⟨b, 0, none⟩), .string ⟨x.toArray⟩] w fun e w' => e = .returned (.tuple #[]) ∧ PrM w0 w' b q Lv Nv Mv Bv Tv pl toks (s.take toks x) := by
  have hle := h.le
  have hlt := h.lt
  have R := Blk.all h.blk
  have Z := Blk.frees h.blk
  have hbl := h.blk.lt
  have H := Lib.hid h
  clear h
  by_cases he : s.err = 0
  · have hd : (s.err != 0) = false := by rw [he]; rfl
    go_enter Tryz.func36, Tryz.ntmps36
    go_wp2_with fail
    refine (is_ref x H.out).mono ?_
    rintro e w1 ⟨rfl, h1⟩
    obtain ⟨I, hI⟩ : ∃ I, isR x (s.here toks) = I := ⟨_, rfl⟩
    rw [hI]
    have H1 := Lib.hid (And.intro h1 hI)
    clear R Z hI
    have R := Blk.all h1.blk
    have Z := Blk.frees h1.blk
    clear h1
    cases I with
    | true =>
      have hn := H1.out.1.next (isR_kind H1.out.2)
      have hs : s.take toks x = s.pass := by unfold PS.take; rw [if_neg (by simp [he]), if_pos H1.out.2]
      go_wp2_with fail
      go_end0
      rw [hs]
      have hk := (Fr.refl (· = b) w1).setCell (a := ⟨b, 1, none⟩) (.int .i64 ((s.i : Int) + 1)) (fun _ => rfl)
      exact ⟨rfl, H1.out.1.set (s' := s.pass) hk (H1.out.1.blk.setOff 1 (.int .i64 ((s.i : Int) + 1))) rfl hn⟩
    | false =>
      have hs : s.take toks x = s.fail toks 80 := by unfold PS.take; rw [if_neg (by simp [he]), if_neg (by rw [H1.out.2]; simp)]
      go_wp2_with fail
      refine (fail_ref 80 H1.out.1).mono ?_
      rintro e w2 ⟨rfl, h2⟩
      go_wp2_with fail
      first | go_end0 | ((try simp only [Exit.inBlock, Exit.then]); refine bodyPost_ret (results_none rfl _ _ _) rfl ?_)
      exact ⟨rfl, hs ▸ h2⟩
  · have hd : (s.err != 0) = true := by simp [he]
    have hs : s.take toks x = s := by unfold PS.take; rw [if_pos he]
    rw [hs]
    go_enter Tryz.func36, Tryz.ntmps36
    go_wp2_with fail
    first | go_end0 | ((try simp only [Exit.inBlock, Exit.then]); refine bodyPost_ret (results_none rfl _ _ _) rfl ?_)
    exact ⟨rfl, H.out⟩
/-- does a name that is no word stand next? -/
def nmR (t : Tok) : Bool := decide (t.kind = 1) && !wordS t.text
set_option maxRecDepth 100000 in
set_option maxHeartbeats 4000000 in
theorem named_ref {w0 w : World} {b q : Nat} {Lv Nv Mv Bv Tv : Value} {pl : Pl} {toks : List Tok} {s : PS} (h : PrM w0 w b q Lv Nv Mv Bv Tv pl toks s) :
    Calls Tryz.prog 120 #[.pointer (some ⟨b, 0, none⟩)] w fun e w' => e = .returned (.bool (nmR (s.here toks))) ∧ PrM w0 w' b q Lv Nv Mv Bv Tv pl toks s := by
  obtain ⟨g, cL, rfl, hgl, hgb, hgq, ht⟩ := h.tok
  obtain ⟨t0, t1, t2, t3, t4, t5⟩ := ht
  have hle := h.le
  have hlt := h.lt
  have R := Blk.all h.blk
  have Z := Blk.frees h.blk
  have hbl := h.blk.lt
  have i1 : (0 : Int) ≤ (s.i : Int) := by omega
  have i2 : (s.i : Int) < (toks.length : Int) := by omega
  have H := Lib.hid h
  clear h
  unfold nmR
  obtain ⟨t, ht⟩ : ∃ t, s.here toks = t := ⟨_, rfl⟩
  rw [ht] at t0 t1 t2 t3 t4 t5 ⊢
  obtain ⟨RS, hRS⟩ : ∃ RS, (decide (t.kind = 1) && !wordS t.text) = RS := ⟨_, rfl⟩
  rw [hRS]
  have HRS := Lib.hid hRS
  clear ht hRS
  go_enter Tryz.func120, Tryz.ntmps120
  go_upto_region 1 with (fail)
  go_region
  have hal : Fr No w (w.alloc (tkO t)).drew := ((Fr.refl No w).alloc (tkO t)).drew
  unfold tkO at hal
  have HN := Lib.hid hal
  clear hal R Z t0 t1 t2 t3 t4 t5
  by_cases hk : t.kind = 1
  · have hd : (t.kind == 1) = true := by rw [hk]; rfl
    go_wp2_with fail
    refine (Word_calls t.text _).mono ?_
    rintro e w1 ⟨rfl, hf1⟩
    have hHN := HN.out
    rw [hk] at hHN
    have hP := H.out.no (hHN.callNo hf1)
    go_wp2_with fail
    go_ret
    exact ⟨by rw [← HRS.out]; simp [hk], hP⟩
  · have hd : (t.kind == 1) = false := by rw [beq_eq_false_iff_ne]; exact hk
    have hP := H.out.no HN.out
    go_wp2_with fail
    go_ret
    exact ⟨by rw [← HRS.out]; simp [hk], hP⟩
/-- the place of a text in a list -/
def amR (l : List (List UInt8)) (x : List UInt8) : Int := match varS l x with
  | none => -1
  | some v => v
theorem var_take {l : List (List UInt8)} {x y : List UInt8} {k : Nat} (hy : l[k]? = some y) (hb : varS (l.take k) x = none) (hne : y ≠ x) : varS (l.take (k + 1)) x = none := by
  unfold varS at hb ⊢
  rw [List.findIdx?_eq_none_iff] at hb ⊢
  intro z hz
  rw [List.take_add_one, hy] at hz
  rcases List.mem_append.1 hz with hz | hz
  · exact hb z hz
  · simp at hz
    subst hz
    rw [beq_eq_false_iff_ne]
    exact hne
theorem var_hit {l : List (List UInt8)} {x : List UInt8} {k : Nat} (hy : l[k]? = some x) (hb : varS (l.take k) x = none) : varS l x = some k := by
  unfold varS at hb ⊢
  rw [List.findIdx?_eq_none_iff] at hb
  obtain ⟨hk, hx⟩ := List.getElem?_eq_some_iff.1 hy
  rw [List.findIdx?_eq_some_iff_getElem]
  refine ⟨hk, by rw [hx]; simp, fun j hj => ?_⟩
  have := hb l[j] (by rw [List.mem_take_iff_getElem]; exact ⟨j, by omega, rfl⟩)
  simpa using this
/-- texts that lie somewhere -/
def NmIn (w : World) (Nv : Value) (nm : List (List UInt8)) : Prop := ∃ a cap, Nv = .slice a nm.length cap ∧ nm.length ≤ cap ∧ (0 < nm.length → ∃ b off, a = some ⟨b, off, none⟩ ∧ b < w.heap.size ∧ ∀ (i : Nat) (x : List UInt8), nm[i]? = some x → w.cell? ⟨b, off + i, none⟩ = some (.string ⟨x.toArray⟩))
theorem NmIn.fr {w w' : World} {Nv : Value} {nm : List (List UInt8)} (h : NmIn w Nv nm) (f : Fr No w w') : NmIn w' Nv nm := by
  obtain ⟨a, cap, h1, hlc, h2⟩ := h
  refine ⟨a, cap, h1, hlc, fun h0 => ?_⟩
  obtain ⟨b, off, e, hb, hc⟩ := h2 h0
  exact ⟨b, off, e, Nat.lt_of_lt_of_le hb f.size, fun i x hx => by rw [← hc i x hx]; exact World.cell?_of_block (f.block b hb (fun x => x))⟩
theorem NmIn.own {w : World} {B : Nat} {Nv : Value} {nm : List (List UInt8)} (h : w.ownsRow B 9 1 Nv nm.length (nm.map strV)) : NmIn w Nv nm := by
  rcases own_cases h with ⟨e, h9, _⟩ | ⟨g, cap, e1, _, hgl, hcap⟩
  · exact ⟨none, 0, by rw [e, h9], by omega, fun h0 => by omega⟩
  · subst e1
    exact ⟨_, cap, rfl, hcap, fun _ => ⟨g, 0, rfl, hgl, fun i x hx => by rw [Nat.zero_add]; exact own_cell h (by rw [List.getElem?_map, hx]; rfl)⟩⟩
theorem NmIn.cell {w : World} {Nv : Value} {nm : List (List UInt8)} (h : NmIn w Nv nm) {v : Nat} {x : List UInt8} (hx : nm[v]? = some x) : ∃ g off cap, Nv = .slice (some ⟨g, off, none⟩) nm.length cap ∧ v < nm.length ∧ g < w.heap.size ∧ w.cell? ⟨g, off + v, none⟩ = some (.string ⟨x.toArray⟩) := by
  have hk := (List.getElem?_eq_some_iff.1 hx).1
  obtain ⟨a, cap, rfl, _, h2⟩ := h
  obtain ⟨b, off, rfl, hb, hc⟩ := h2 (by omega)
  exact ⟨b, off, cap, rfl, hk, hb, hc v x hx⟩
set_option maxRecDepth 100000 in
set_option maxHeartbeats 4000000 in
theorem among_ref {w : World} {v : Value} {l : List (List UInt8)} (x : List UInt8) (h : NmIn w v l) (hl : l.length ≤ 100000) :
    Calls Tryz.prog 122 #[v, .string ⟨x.toArray⟩] w fun e w' => e = .returned (.int .i64 (amR l x)) ∧ Fr No w w' := by
  obtain ⟨a, c, rfl, _, _⟩ := id h
  go_enter Tryz.func122, Tryz.ntmps122
  go_wp2_with fail
  go_loopg [5] l.length (fun gk x5 wr => ∃ i : Nat, gk = l.length - i ∧ i ≤ l.length ∧ x5 = .int .i64 i ∧ varS (l.take i) x = none ∧ Fr No w wr)
  case atStart => exact ⟨0, rfl, Nat.zero_le _, rfl, rfl, Fr.refl _ _⟩
  case round =>
    obtain ⟨i, hgk, hi, rfl, hv, hf⟩ := hrel
    have HG := Lib.hid (And.intro hgk hv)
    clear hgk hv
    by_cases hlt : i < l.length
    · obtain ⟨y, hy⟩ : ∃ y, l[i]? = some y := ⟨l[i], List.getElem?_eq_getElem hlt⟩
      obtain ⟨g1, o1, cap1, e1, _, hgl1, d0⟩ := (h.fr hf).cell hy
      simp only [Value.slice.injEq] at e1
      obtain ⟨rfl, _, rfl⟩ := e1
      have i1 : (0 : Int) ≤ (i : Int) := by omega
      have i2 : (i : Int) < (l.length : Int) := by omega
      have HY := Lib.hid hy
      clear hy
      by_cases hyx : y = x
      · have hd : (y == x) = true := by rw [beq_iff_eq]; exact hyx
        have hr : amR l x = (i : Int) := by unfold amR; rw [var_hit (hyx ▸ HY.out) HG.out.2]
        go_wp2_with fail
        go_ret
        exact ⟨by first | rfl | (rw [hr]; rfl), hf⟩
      · have hd : (y == x) = false := by rw [beq_eq_false_iff_ne]; exact hyx
        go_wp2_with fail
        go_roundg (l.length - (i + 1))
        case measure => rw [HG.out.1]; omega
        case rel => exact ⟨i + 1, rfl, by omega, by go_num, var_take HY.out HG.out.2 hyx, hf⟩
    · obtain rfl : i = l.length := by omega
      have i2 : ¬ ((l.length : Int) < (l.length : Int)) := by omega
      have hr : amR l x = -1 := by
        have := HG.out.2
        rw [List.take_length] at this
        unfold amR
        rw [this]
      go_wp2_with fail
      go_ret
      exact ⟨by first | rfl | (rw [hr]; rfl), hf⟩
def PS.opens (toks : List Tok) (s : PS) (x : List UInt8) : PS := if s.err ≠ 0 then s else if isR x (s.here toks) = false then s.fail toks 80 else if 16 ≤ s.o then s.fail toks 83 else { s with i := s.i + 1, o := s.o + 1 }
def PS.closes (toks : List Tok) (s : PS) (x : List UInt8) : PS := { s.take toks x with o := s.o - 1 }
theorem fail_o (toks : List Tok) (s : PS) (c : Int) : (s.fail toks c).o = s.o ∧ (s.fail toks c).parts = s.parts ∧ (s.fail toks c).i = s.i := by unfold PS.fail; split <;> exact ⟨rfl, rfl, rfl⟩
theorem take_o (toks : List Tok) (s : PS) (x : List UInt8) : (s.take toks x).o = s.o ∧ (s.take toks x).parts = s.parts := by
  unfold PS.take
  split
  · exact ⟨rfl, rfl⟩
  · split
    · exact ⟨rfl, rfl⟩
    · exact ⟨(fail_o toks s 80).1, (fail_o toks s 80).2.1⟩
set_option maxRecDepth 100000 in
set_option maxHeartbeats 4000000 in
theorem close_ref {w0 w : World} {b q : Nat} {Lv Nv Mv Bv Tv : Value} {pl : Pl} {toks : List Tok} {s : PS} (x : List UInt8) (h : PrM w0 w b q Lv Nv Mv Bv Tv pl toks s) (ho : -10000 ≤ s.o ∧ s.o ≤ 10000) :
    Calls Tryz.prog 125 #[.pointer (some ⟨b, 0, none⟩), .string ⟨x.toArray⟩] w fun e w' => e = .returned (.tuple #[]) ∧ PrM w0 w' b q Lv Nv Mv Bv Tv pl toks (s.closes toks x) := by
  have H := Lib.hid h
  clear h
  go_enter Tryz.func125, Tryz.ntmps125
  go_wp2_with fail
  refine (take_ref x H.out).mono ?_
  rintro e w1 ⟨rfl, h1⟩
  have h2 := h1
  obtain ⟨s1, hs1⟩ : ∃ s1, s.take toks x = s1 := ⟨_, rfl⟩
  have ho1 : s1.o = s.o := by rw [← hs1]; exact (take_o toks s x).1
  have hcl : s.closes toks x = { s1 with o := s1.o - 1 } := by unfold PS.closes; rw [hs1, ho1]
  rw [hs1] at h1 h2
  have ho2 : -10000 ≤ s1.o ∧ s1.o ≤ 10000 := by rw [ho1]; exact ho
  obtain ⟨ho3, ho4⟩ := ho2
  have H1 := Lib.hid (And.intro h1 hcl)
  clear h1 hcl hs1 ho1 ho
  have R := Blk.all h2.blk
  have Z := Blk.frees h2.blk
  have hbl := h2.blk.lt
  clear h2
  go_wp2_with fail
  first | go_end0 | ((try simp only [Exit.inBlock, Exit.then]); refine bodyPost_ret (results_none rfl _ _ _) rfl ?_)
  have hk := (Fr.refl (· = b) w1).setCell (a := ⟨b, 2, none⟩) (.int .i64 (s1.o - 1)) (fun _ => rfl)
  rw [H1.out.2]
  exact ⟨rfl, H1.out.1.set (s' := { s1 with o := s1.o - 1 }) hk (H1.out.1.blk.setOff 2 (.int .i64 (s1.o - 1))) rfl H1.out.1.lt⟩
set_option maxRecDepth 100000 in
set_option maxHeartbeats 4000000 in
theorem open_ref {w0 w : World} {b q : Nat} {Lv Nv Mv Bv Tv : Value} {pl : Pl} {toks : List Tok} {s : PS} (x : List UInt8) (h : PrM w0 w b q Lv Nv Mv Bv Tv pl toks s) (ho : -10000 ≤ s.o ∧ s.o ≤ 10000) :
    Calls Tryz.prog 124 #[.pointer (some ⟨b, 0, none⟩), .string ⟨x.toArray⟩] w fun e w' => e = .returned (.tuple #[]) ∧ PrM w0 w' b q Lv Nv Mv Bv Tv pl toks (s.opens toks x) := by
  have hle := h.le
  have hlt := h.lt
  obtain ⟨ho1, ho2⟩ := ho
  have R := Blk.all h.blk
  have Z := Blk.frees h.blk
  have hbl := h.blk.lt
  have H := Lib.hid h
  clear h
  by_cases he : s.err = 0
  · have hd : (s.err != 0) = false := by rw [he]; rfl
    go_enter Tryz.func124, Tryz.ntmps124
    go_wp2_with fail
    refine (is_ref x H.out).mono ?_
    rintro e w1 ⟨rfl, h1⟩
    obtain ⟨I, hI⟩ : ∃ I, isR x (s.here toks) = I := ⟨_, rfl⟩
    rw [hI]
    have H1 := Lib.hid (And.intro h1 hI)
    clear R Z hI
    have R := Blk.all h1.blk
    have Z := Blk.frees h1.blk
    have hbl1 := h1.blk.lt
    clear h1
    cases I with
    | true =>
      have hn := H1.out.1.next (isR_kind H1.out.2)
      by_cases h16 : 16 ≤ s.o
      · have hd2 : decide ((16 : Int) ≤ s.o) = true := decide_eq_true h16
        have hs : s.opens toks x = s.fail toks 83 := by unfold PS.opens; rw [if_neg (by simp [he]), if_neg (by rw [H1.out.2]; simp), if_pos h16]
        go_wp2_with fail
        refine (fail_ref 83 H1.out.1).mono ?_
        rintro e w2 ⟨rfl, h2⟩
        go_wp2_with fail
        first | go_end0 | ((try simp only [Exit.inBlock, Exit.then]); refine bodyPost_ret (results_none rfl _ _ _) rfl ?_)
        exact ⟨rfl, hs ▸ h2⟩
      · have hd2 : decide ((16 : Int) ≤ s.o) = false := decide_eq_false h16
        have hs : s.opens toks x = { s with i := s.i + 1, o := s.o + 1 } := by unfold PS.opens; rw [if_neg (by simp [he]), if_neg (by rw [H1.out.2]; simp), if_neg h16]
        go_wp2_with fail
        first | go_end0 | ((try simp only [Exit.inBlock, Exit.then]); refine bodyPost_ret (results_none rfl _ _ _) rfl ?_)
        rw [hs]
        have hk := ((Fr.refl (· = b) w1).setCell (a := ⟨b, 1, none⟩) (.int .i64 ((s.i : Int) + 1)) (fun _ => rfl)).setCell (a := ⟨b, 2, none⟩) (.int .i64 (s.o + 1)) (fun _ => rfl)
        exact ⟨rfl, H1.out.1.set (s' := { s with i := s.i + 1, o := s.o + 1 }) hk ((H1.out.1.blk.setOff 1 (.int .i64 ((s.i : Int) + 1))).setOff 2 (.int .i64 (s.o + 1))) rfl hn⟩
    | false =>
      have hs : s.opens toks x = s.fail toks 80 := by unfold PS.opens; rw [if_neg (by simp [he]), if_pos H1.out.2]
      go_wp2_with fail
      refine (fail_ref 80 H1.out.1).mono ?_
      rintro e w2 ⟨rfl, h2⟩
      go_wp2_with fail
      first | go_end0 | ((try simp only [Exit.inBlock, Exit.then]); refine bodyPost_ret (results_none rfl _ _ _) rfl ?_)
      exact ⟨rfl, hs ▸ h2⟩
  · have hd : (s.err != 0) = true := by simp [he]
    have hs : s.opens toks x = s := by unfold PS.opens; rw [if_pos he]
    rw [hs]
    go_enter Tryz.func124, Tryz.ntmps124
    go_wp2_with fail
    first | go_end0 | ((try simp only [Exit.inBlock, Exit.then]); refine bodyPost_ret (results_none rfl _ _ _) rfl ?_)
    exact ⟨rfl, H.out⟩
end Go.Proofs.YtlklijpjacmgpaaGreatDoor
