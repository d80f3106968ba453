/- The reference's parser: atom, unary. -/
import Derived.Test.YtlklijpjacmgpaaGreatDoorQD
import Derived.Test.YtlklijpjacmgpaaGreatDoorQA
import Derived.Test.YtlklijpjacmgpaaGreatDoorLU
namespace Go.Proofs.YtlklijpjacmgpaaGreatDoor
open Go.RowKit
set_option linter.unusedVariables false
set_option linter.unusedSimpArgs false
set_option exponentiation.threshold 5000
attribute [local go_sem ↓] Go.wp_at_zero Go.wp_at_succ

def phi (toks : List Tok) (s : PS) : Nat := s.parts.length + (toks.length - s.i)
def opR : Nat → Int
  | 43 => 3
  | 45 => 4
  | 42 => 5
  | 47 => 6
  | _ => 7
/-- the k-th part stands for this expression -/
def RepX (ps : List XP) : Nd → Nat → Prop
  | .num n, k => ∃ x, ps[k]? = some x ∧ x.op = 0 ∧ x.num = n
  | .name v y, k => ∃ x, ps[k]? = some x ∧ x.op = 1 ∧ x.v = v
  | .minus a, k => ∃ x, ps[k]? = some x ∧ x.op = 2 ∧ RepX ps a x.a
  | .two op l r, k => ∃ x, ps[k]? = some x ∧ x.op = opR op ∧ RepX ps l x.a ∧ RepX ps r x.b
theorem get_pre {α : Type} {l m : List α} (h : l <+: m) {k : Nat} {x : α} (hx : l[k]? = some x) : m[k]? = some x := by
  obtain ⟨t, rfl⟩ := h
  rw [List.getElem?_append_left (List.getElem?_eq_some_iff.1 hx).1]
  exact hx
theorem RepX.mono {ps qs : List XP} (h : ps <+: qs) : ∀ {a : Nd} {k : Nat}, RepX ps a k → RepX qs a k
  | .num n, k, ⟨x, h1, h2⟩ => ⟨x, get_pre h h1, h2⟩
  | .name v y, k, ⟨x, h1, h2⟩ => ⟨x, get_pre h h1, h2⟩
  | .minus a, k, ⟨x, h1, h2, h3⟩ => ⟨x, get_pre h h1, h2, RepX.mono h h3⟩
  | .two op l r, k, ⟨x, h1, h2, h3, h4⟩ => ⟨x, get_pre h h1, h2, RepX.mono h h3, RepX.mono h h4⟩
theorem RepX.lt {ps : List XP} : ∀ {a : Nd} {k : Nat}, RepX ps a k → k < ps.length
  | .num n, k, ⟨x, h1, _⟩ => (List.getElem?_eq_some_iff.1 h1).1
  | .name v y, k, ⟨x, h1, _⟩ => (List.getElem?_eq_some_iff.1 h1).1
  | .minus a, k, ⟨x, h1, _, _⟩ => (List.getElem?_eq_some_iff.1 h1).1
  | .two op l r, k, ⟨x, h1, _, _, _⟩ => (List.getElem?_eq_some_iff.1 h1).1
/-- what the reference has made of an expression -/
def ExO (toks : List Tok) (s : PS) (res : Except Er (Nd × List Tok)) (v : Int) (s' : PS) : Prop :=
  match res with
  | .ok (a, r1) => s'.err = 0 ∧ toks.drop s'.i = r1 ∧ s'.o = s.o ∧ (∃ k : Nat, v = k ∧ RepX s'.parts a k) ∧ s.parts <+: s'.parts ∧ phi toks s' ≤ phi toks s
  | .error (c, p) => s'.err = c ∧ c ≠ 0 ∧ s'.at_ = p ∧ s.o - 1 ≤ s'.o ∧ s'.o ≤ s.o ∧ 0 ≤ v ∧ v ≤ 10000 ∧ phi toks s' ≤ phi toks s + 1
/-- the state after a part more -/
def PS.add (s : PS) (x : XP) : PS := { s with parts := s.parts ++ [x] }
set_option maxRecDepth 100000 in
set_option maxHeartbeats 8000000 in
theorem atom_num {w0 w : World} {b q : Nat} {Lv Nv Mv Bv Tv : Value} {pl : Pl} {toks : List Tok} {s : PS} {n : Nat} (h : PrM w0 w b q Lv Nv Mv Bv Tv pl toks s) (he : s.err = 0) (hk : (s.here toks).kind = 2) (ht : (s.here toks).text = decText n) (hd4 : (decText n).length ≤ 4096) (hph : phi toks s ≤ 9000) :
    Calls Tryz.prog 153 #[.pointer (some ⟨b, 0, none⟩)] w fun e w' => e = .returned (.int .i64 s.parts.length) ∧ PrM w0 w' b q Lv Nv Mv Bv Tv pl toks (s.pass.add ⟨0, 0, 0, 0, n⟩) := by
  have hle := h.le
  have hlt := h.lt
  have hnx := h.next (by rw [hk]; decide)
  obtain ⟨g, cL, rfl, hgl, hgb, hgq, ht0⟩ := h.tok
  obtain ⟨t0, t1, _, _, _, _⟩ := ht0
  rw [hk] at t0
  have R := Blk.all h.blk
  have Z := Blk.frees h.blk
  have hbl := h.blk.lt
  have i1 : (0 : Int) ≤ (s.i : Int) := by omega
  have i2 : (s.i : Int) < (toks.length : Int) := by omega
  have hd : (s.err != 0) = false := by rw [he]; rfl
  have H := Lib.hid (And.intro h ht)
  clear h ht t1
  go_enter Tryz.func153, Tryz.ntmps153
  go_upto_region 3 with (fail)
  go_quiet (fail)
  go_upto_region 5 with (fail)
  have hk1 := ((Fr.refl (· = b) w).drewN nq).setCell (a := ⟨b, 1, none⟩) (.int .i64 ((s.i : Int) + 1)) (fun _ => rfl)
  have hB1 := (H.out.1.blk.drewN nq).setOff 1 (.int .i64 ((s.i : Int) + 1))
  obtain ⟨w1, hw1⟩ : ∃ w1, (w.drewN nq).setCell ⟨b, 1, none⟩ (.int .i64 ((s.i : Int) + 1)) = w1 := ⟨_, rfl⟩
  rw [hw1] at hk1 ⊢
  have h1 := H.out.1.set (s' := s.pass) hk1 (hw1 ▸ hB1) rfl hnx
  have ht1 := tok_at h1.tk (here_get hlt)
  obtain ⟨_, t1, _, _, _, _⟩ := ht1
  rw [H.out.2] at t1
  clear hB1 hw1 hk1 R Z t0 hgl
  have R := Blk.all h1.blk
  have r0 : w1.cell? ⟨b, 0, none⟩ = some (.slice (some ⟨g, 0, none⟩) toks.length cL) := R 0
  have r1 : w1.cell? ⟨b, 1, none⟩ = some (.int .i64 ((s.i : Int) + 1)) := R 1
  have hwr : IntKind.i64.wrap ((s.i : Int) + 1 - 1) = (s.i : Int) := by rw [IntKind.wrap_i64]; omega
  have hwr2 : (s.i : Int) + 1 - 1 = (s.i : Int) := by omega
  have hwr3 : IntKind.i64.wrap (s.i : Int) = (s.i : Int) := by rw [IntKind.wrap_i64]; omega
  have hbl1 := h1.blk.lt
  clear R
  have hPd := h1.no ((Fr.refl No w1).drew)
  have hpp : s.pass.parts.length ≤ 100000 := by have : s.pass.parts = s.parts := rfl; rw [this]; unfold phi at hph; omega
  have HP := Lib.hid (And.intro h1 (And.intro hPd hpp))
  clear h1 hPd hpp
  go_region_with (first | (go_at_call 77; refine (Digits_dec n _ hd4).mono ?_; rintro e w2 ⟨aD, cD, rfl, hoD, hfD⟩; simp only [nV]; have hP2 := (by first | exact HP.out.1.no hfD | exact HP.out.2.1.no hfD); have hoD2 := own_mono hoD (by first | exact HP.out.1.fr.size | exact HP.out.2.1.fr.size)) | (go_at_call 101; refine (part_ref ⟨0, 0, 0, 0, n⟩ aD cD hP2 hoD2 HP.out.2.2).mono ?_; rintro e w3 ⟨rfl, hP3⟩))
  all_goals go_wp2_with fail
  all_goals go_ret
  all_goals exact ⟨rfl, hP3⟩
set_option maxRecDepth 100000 in
set_option maxHeartbeats 4000000 in
/-- an atom in a parser where something is wrong -/
theorem atom_dead {w0 w : World} {b q : Nat} {Lv Nv Mv Bv Tv : Value} {pl : Pl} {toks : List Tok} {s : PS} (h : PrM w0 w b q Lv Nv Mv Bv Tv pl toks s) (he : s.err ≠ 0) :
    Calls Tryz.prog 153 #[.pointer (some ⟨b, 0, none⟩)] w fun e w' => e = .returned (.int .i64 0) ∧ PrM w0 w' b q Lv Nv Mv Bv Tv pl toks s := by
  have R := Blk.all h.blk
  have Z := Blk.frees h.blk
  have hbl := h.blk.lt
  have hd : (s.err != 0) = true := by simp [he]
  have H := Lib.hid h
  clear h
  go_enter Tryz.func153, Tryz.ntmps153
  go_wp2_with fail
  go_ret
  exact ⟨rfl, H.out⟩
set_option maxRecDepth 100000 in
set_option maxHeartbeats 4000000 in
theorem unary_dead {w0 w : World} {b q : Nat} {Lv Nv Mv Bv Tv : Value} {pl : Pl} {toks : List Tok} {s : PS} (h : PrM w0 w b q Lv Nv Mv Bv Tv pl toks s) (he : s.err ≠ 0) :
    Calls Tryz.prog 133 #[.pointer (some ⟨b, 0, none⟩)] w fun e w' => e = .returned (.int .i64 0) ∧ PrM w0 w' b q Lv Nv Mv Bv Tv pl toks s := by
  have R := Blk.all h.blk
  have Z := Blk.frees h.blk
  have hbl := h.blk.lt
  have hd : (s.err == 0) = false := by rw [beq_eq_false_iff_ne]; exact he
  have H := Lib.hid h
  clear h
  go_enter Tryz.func133, Tryz.ntmps133
  go_wp2_with fail
  refine (atom_dead H.out he).mono ?_
  rintro e w1 ⟨rfl, h1⟩
  go_wp2_with fail
  go_ret
  exact ⟨rfl, h1⟩
set_option maxRecDepth 100000 in
set_option maxHeartbeats 4000000 in
theorem product_dead {w0 w : World} {b q : Nat} {Lv Nv Mv Bv Tv : Value} {pl : Pl} {toks : List Tok} {s : PS} (h : PrM w0 w b q Lv Nv Mv Bv Tv pl toks s) (he : s.err ≠ 0) :
    Calls Tryz.prog 100 #[.pointer (some ⟨b, 0, none⟩)] w fun e w' => e = .returned (.int .i64 0) ∧ PrM w0 w' b q Lv Nv Mv Bv Tv pl toks s := by
  have hd : (s.err == 0) = false := by rw [beq_eq_false_iff_ne]; exact he
  have H := Lib.hid h
  clear h
  go_enter Tryz.func100, Tryz.ntmps100
  go_wp2_with fail
  refine (unary_dead H.out he).mono ?_
  rintro e w1 ⟨rfl, h1⟩
  have R := Blk.all h1.blk
  have Z := Blk.frees h1.blk
  have hbl := h1.blk.lt
  have H1 := Lib.hid h1
  clear h1
  go_wp2_with fail
  go_loopg [3] 0 (fun gk x3 wr => gk = 0 ∧ x3 = .int .i64 0 ∧ wr = w1)
  case atStart => exact ⟨rfl, rfl, rfl⟩
  case round =>
    obtain ⟨_, rfl, rfl⟩ := hrel
    go_wp2_with fail
    go_ret
    exact ⟨rfl, H1.out⟩
set_option maxRecDepth 100000 in
set_option maxHeartbeats 4000000 in
theorem sum_dead {w0 w : World} {b q : Nat} {Lv Nv Mv Bv Tv : Value} {pl : Pl} {toks : List Tok} {s : PS} (h : PrM w0 w b q Lv Nv Mv Bv Tv pl toks s) (he : s.err ≠ 0) :
    Calls Tryz.prog 57 #[.pointer (some ⟨b, 0, none⟩)] w fun e w' => e = .returned (.int .i64 0) ∧ PrM w0 w' b q Lv Nv Mv Bv Tv pl toks s := by
  have hd : (s.err == 0) = false := by rw [beq_eq_false_iff_ne]; exact he
  have H := Lib.hid h
  clear h
  go_enter Tryz.func57, Tryz.ntmps57
  go_wp2_with fail
  refine (product_dead H.out he).mono ?_
  rintro e w1 ⟨rfl, h1⟩
  have R := Blk.all h1.blk
  have Z := Blk.frees h1.blk
  have hbl := h1.blk.lt
  have H1 := Lib.hid h1
  clear h1
  go_wp2_with fail
  go_loopg [3] 0 (fun gk x3 wr => gk = 0 ∧ x3 = .int .i64 0 ∧ wr = w1)
  case atStart => exact ⟨rfl, rfl, rfl⟩
  case round =>
    obtain ⟨_, rfl, rfl⟩ := hrel
    go_wp2_with fail
    go_ret
    exact ⟨rfl, H1.out⟩
end Go.Proofs.YtlklijpjacmgpaaGreatDoor
