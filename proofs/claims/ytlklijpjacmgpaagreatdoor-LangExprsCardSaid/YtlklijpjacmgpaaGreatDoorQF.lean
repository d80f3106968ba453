/- The reference's parser: atom, unary by induction. -/
import Derived.Test.YtlklijpjacmgpaaGreatDoorQE
namespace Go.Proofs.YtlklijpjacmgpaaGreatDoor
open Go.RowKit
set_option linter.unusedVariables false
set_option linter.unusedSimpArgs false
set_option exponentiation.threshold 5000
attribute [local go_sem ↓] Go.wp_at_zero Go.wp_at_succ

structure ExR (w0 : World) (b q : Nat) (Lv Nv Mv Bv Tv : Value) (pl : Pl) (toks : List Tok) (nm : List (List UInt8)) (n : Nat) : Prop where
  un : ∀ (w : World) (s : PS) (o : Nat), PrM w0 w b q Lv Nv Mv Bv Tv pl toks s → s.err = 0 → s.o = (o : Int) → o ≤ 16 → phi toks s ≤ 9000 → 4 * (toks.drop s.i).length + 1 ≤ n → Calls Tryz.prog 133 #[.pointer (some ⟨b, 0, none⟩)] w fun e w' => ∃ (s' : PS) (v : Int), e = .returned (.int .i64 v) ∧ PrM w0 w' b q Lv Nv Mv Bv Tv pl toks s' ∧ ExO toks s (unS n nm o (toks.drop s.i)) v s'
  pr : ∀ (w : World) (s : PS) (o : Nat), PrM w0 w b q Lv Nv Mv Bv Tv pl toks s → s.err = 0 → s.o = (o : Int) → o ≤ 16 → phi toks s ≤ 9000 → 4 * (toks.drop s.i).length + 2 ≤ n → Calls Tryz.prog 100 #[.pointer (some ⟨b, 0, none⟩)] w fun e w' => ∃ (s' : PS) (v : Int), e = .returned (.int .i64 v) ∧ PrM w0 w' b q Lv Nv Mv Bv Tv pl toks s' ∧ ExO toks s (prodS n nm o (toks.drop s.i)) v s'
  su : ∀ (w : World) (s : PS) (o : Nat), PrM w0 w b q Lv Nv Mv Bv Tv pl toks s → s.err = 0 → s.o = (o : Int) → o ≤ 16 → phi toks s ≤ 9000 → 4 * (toks.drop s.i).length + 3 ≤ n → Calls Tryz.prog 57 #[.pointer (some ⟨b, 0, none⟩)] w fun e w' => ∃ (s' : PS) (v : Int), e = .returned (.int .i64 v) ∧ PrM w0 w' b q Lv Nv Mv Bv Tv pl toks s' ∧ ExO toks s (sumS n nm o (toks.drop s.i)) v s'
theorem good_drop : ∀ {toks : List Tok} (g : Good toks) (i : Nat), i < toks.length → Good (toks.drop i)
  | _, .last p, i, h => by
    simp only [List.length_singleton] at h
    obtain rfl : i = 0 := by omega
    exact Good.last p
  | _, .cons (x := x) (r := r) h1 h2 h3 h4 g, 0, h => Good.cons h1 h2 h3 h4 g
  | _, .cons (x := x) (r := r) h1 h2 h3 h4 g, i + 1, h => by
    rw [List.drop_succ_cons]
    exact good_drop g i (by simpa using h)
theorem phi_pass {toks : List Tok} {s : PS} (h : s.i < toks.length) : phi toks s.pass + 1 = phi toks s := by
  unfold phi PS.pass
  simp only
  omega
theorem fail_eq {toks : List Tok} {s : PS} (he : s.err = 0) (c : Int) : (s.fail toks c).err = c ∧ (s.fail toks c).at_ = (hereT (toks.drop s.i)).at_ ∧ (s.fail toks c).o = s.o ∧ (s.fail toks c).parts = s.parts ∧ (s.fail toks c).i = s.i := by
  unfold PS.fail
  rw [if_pos he]
  exact ⟨rfl, rfl, rfl, rfl, rfl⟩
theorem phi_eq {toks : List Tok} {s t : PS} (h1 : t.parts = s.parts) (h2 : t.i = s.i) : phi toks t = phi toks s := by unfold phi; rw [h1, h2]
theorem phi_add (toks : List Tok) (s : PS) (x : XP) : phi toks (s.add x) = phi toks s + 1 := by
  unfold phi PS.add
  simp only [List.length_append, List.length_singleton]
  omega
theorem rep_last (ps : List XP) (x : XP) : (ps ++ [x])[ps.length]? = some x := by simp
theorem own_nil_int (w : World) (B : Nat) : w.ownsRow B 3 1 (.slice none (dig 10000 0).length 0) (dig 10000 0).length (i64s (dig 10000 0)) := by
  rw [dig_zero]
  exact World.ownsRow_nil _ _ _ _
theorem part0_ref {w0 w : World} {b q : Nat} {Lv Nv Mv Bv Tv : Value} {pl : Pl} {toks : List Tok} {s : PS} (op : Int) (v a c : Nat) (h : PrM w0 w b q Lv Nv Mv Bv Tv pl toks s) (hp : s.parts.length ≤ 100000) :
    Calls Tryz.prog 101 #[.pointer (some ⟨b, 0, none⟩), .agg #[.int .i64 op, .int .i64 v, .int .i64 a, .int .i64 c, .bool false, .slice none 0 0]] w fun e w' => e = .returned (.int .i64 s.parts.length) ∧ PrM w0 w' b q Lv Nv Mv Bv Tv pl toks (s.add ⟨op, v, a, c, 0⟩) := by
  have h1 := part_ref ⟨op, v, a, c, 0⟩ none 0 h (own_nil_int w _) hp
  have e : (dig 10000 0).length = 0 := by rw [dig_zero]; rfl
  simp only [e] at h1
  exact h1
set_option maxRecDepth 100000 in
set_option maxHeartbeats 8000000 in
theorem atom_ref {w0 : World} {b q : Nat} {Lv Nv Mv Bv Tv : Value} {pl : Pl} {toks : List Tok} {nm : List (List UInt8)} {n : Nat} (hk : TkOk toks) (hn : NmIn w0 Nv nm) (hl : nm.length ≤ 1000) (ih : ExR w0 b q Lv Nv Mv Bv Tv pl toks nm n)
    (w : World) (s : PS) (o : Nat) (h : PrM w0 w b q Lv Nv Mv Bv Tv pl toks s) (he : s.err = 0) (ho : s.o = (o : Int)) (ho16 : o ≤ 16) (hph : phi toks s ≤ 9000) (hfu : 4 * (toks.drop s.i).length + 1 ≤ n + 1) (hm : isT [45] (toks.drop s.i) = false) :
    Calls Tryz.prog 153 #[.pointer (some ⟨b, 0, none⟩)] w fun e w' => ∃ (s' : PS) (v : Int), e = .returned (.int .i64 v) ∧ PrM w0 w' b q Lv Nv Mv Bv Tv pl toks s' ∧ ExO toks s (unS (n + 1) nm o (toks.drop s.i)) v s' := by
  have hlt := h.lt
  have hle := h.le
  have hgd := good_drop h.gd s.i hlt
  have hh : s.here toks = hereT (toks.drop s.i) := rfl
  by_cases hk2 : (s.here toks).kind = 2
  · -- a number
    obtain ⟨v, hv, ht⟩ := here_num hgd hk2
    have hd4 : (decText v).length ≤ 4096 := by have := here_len hgd; rw [ht] at this; omega
    have hres : unS (n + 1) nm o (toks.drop s.i) = .ok (.num v, passT (toks.drop s.i)) := by
      rw [unS, if_neg (by rw [hm]; decide), if_pos (show (hereT (toks.drop s.i)).kind = 2 from hk2), show (hereT (toks.drop s.i)).text = decText v from ht, show numS (decText v) = v from digVal_decText v]
    rw [hres]
    refine (atom_num h he hk2 ht hd4 hph).mono ?_
    rintro e w' ⟨rfl, h2⟩
    refine ⟨_, _, rfl, h2, he, ?_, rfl, ⟨s.parts.length, rfl, ?_⟩, ?_, ?_⟩
    · exact drop_pass hlt (by rw [hk2]; decide)
    · exact ⟨_, rep_last _ _, rfl, rfl⟩
    · exact ⟨_, rfl⟩
    · rw [phi_add, phi_pass hlt]; exact Nat.le_refl _
  · obtain ⟨g, cL, rfl, hgl, hgb, hgq, ht0⟩ := h.tok
    obtain ⟨t0, _, _, _, _, _⟩ := ht0
    have hd2 : ((s.here toks).kind == 2) = false := by rw [beq_eq_false_iff_ne]; exact hk2
    have R := Blk.all h.blk
    have Z := Blk.frees h.blk
    have hbl := h.blk.lt
    have i1 : (0 : Int) ≤ (s.i : Int) := by omega
    have i2 : (s.i : Int) < (toks.length : Int) := by omega
    have hd : (s.err != 0) = false := by rw [he]; rfl
    have hdr := h.no ((Fr.refl No w).drewN 1)
    have hpl40 := isR_sign hk hlt (x := [40]) (by decide)
    have hpp : s.parts.length ≤ 9000 := by unfold phi at hph; omega
    obtain ⟨res, hres⟩ : ∃ res, unS (n + 1) nm o (toks.drop s.i) = res := ⟨_, rfl⟩
    have hres0 := hres
    rw [hres]
    rw [unS, if_neg (by rw [hm]; decide), if_neg (show ¬ (hereT (toks.drop s.i)).kind = 2 from hk2)] at hres
    have H := Lib.hid (And.intro h (And.intro hpl40 (And.intro hres hh)))
    clear h hdr hpl40 hres hres0 hh
    go_enter Tryz.func153, Tryz.ntmps153
    go_upto_region 3 with (fail)
    go_quiet (fail)
    have h1 := H.out.1.no ((Fr.refl No w).drewN nq)
    have H1 := Lib.hid h1
    clear h1 R Z t0 hgl
    generalize w.drewN nq = w1 at *
    go_wp2_with fail
    refine (is_ref [40] H1.out).mono ?_
    rintro e w2 ⟨rfl, h2⟩
    rw [H.out.2.1]
    have H2 := Lib.hid h2
    clear h2
    cases h40 : isT [40] (toks.drop s.i) with
    | true =>
      have hkt : (hereT (toks.drop s.i)).kind = 3 ∧ (hereT (toks.drop s.i)).text = [40] := by
        have h3 := H.out.2.1
        rw [h40] at h3
        unfold isR at h3
        simp only [Bool.and_eq_true, decide_eq_true_eq, beq_iff_eq] at h3
        exact ⟨h3.1, h3.2⟩
      have hnn : nameS (toks.drop s.i) = false := by unfold nameS; rw [hkt.1]; rfl
      have hr2 := H.out.2.2.1
      rw [if_neg (by rw [hnn]; decide), if_neg (by simp [hkt])] at hr2
      have HR2 := Lib.hid hr2
      clear hr2
      go_wp2_with fail
      refine (open_ref [40] H2.out (by omega)).mono ?_
      rintro e w3 ⟨rfl, h3⟩
      by_cases h16 : 16 ≤ o
      · have hop : s.opens toks [40] = s.fail toks 83 := by unfold PS.opens; rw [if_neg (by simp [he]), if_neg (by rw [H.out.2.1, h40]; simp), if_pos (by omega)]
        rw [hop] at h3
        obtain ⟨f1, f2, f3, f4, f5⟩ := fail_eq (toks := toks) he 83
        have hr3 := HR2.out
        rw [if_pos h16] at hr3
        subst hr3
        have H3 := Lib.hid h3
        clear h3
        go_wp2_with fail
        refine (sum_dead H3.out (by rw [f1]; decide)).mono ?_
        rintro e w4 ⟨rfl, h4⟩
        go_wp2_with fail
        refine (close_ref [41] h4 (by rw [f3]; omega)).mono ?_
        rintro e w5 ⟨rfl, h5⟩
        go_wp2_with fail
        go_ret
        have hc : (s.fail toks 83).closes toks [41] = { s.fail toks 83 with o := s.o - 1 } := by unfold PS.closes PS.take; rw [if_pos (by rw [f1]; decide), f3]
        rw [hc] at h5
        have h9 := phi_eq (toks := toks) (s := s) f4 f5
        exact ⟨_, _, rfl, h5, f1, by decide, f2, by show s.o - 1 ≤ s.o - 1; omega, by show s.o - 1 ≤ s.o; omega, by omega, by omega, by show phi toks (s.fail toks 83) ≤ _; omega⟩
      · have hop : s.opens toks [40] = { s with i := s.i + 1, o := s.o + 1 } := by unfold PS.opens; rw [if_neg (by simp [he]), if_neg (by rw [H.out.2.1, h40]; simp), if_neg (by omega)]
        rw [hop] at h3
        obtain ⟨s1, hs1⟩ : ∃ s1 : PS, s1 = { s with i := s.i + 1, o := s.o + 1 } := ⟨_, rfl⟩
        rw [← hs1] at h3
        have e1 : s1.i = s.i + 1 := by rw [hs1]
        have e2 : s1.o = ((o + 1 : Nat) : Int) := by rw [hs1]; show s.o + 1 = _; omega
        have e3 : s1.parts = s.parts := by rw [hs1]
        have e4 : s1.err = 0 := by rw [hs1]; exact he
        have e5 : phi toks s1 + 1 = phi toks s := by unfold phi; rw [e1, e3]; omega
        have hdp : toks.drop s1.i = passT (toks.drop s.i) := by rw [e1]; exact drop_pass hlt (by show (hereT (toks.drop s.i)).kind ≠ 0; rw [hkt.1]; decide)
        have hlp := hgd.pass_lt (by rw [hkt.1]; decide)
        have hr3 := HR2.out
        rw [if_neg h16] at hr3
        have hsu := ih.su w3 s1 (o + 1) h3 e4 e2 (by omega) (by omega) (by rw [hdp]; omega)
        rw [hdp] at hsu
        have HR3 := Lib.hid hr3
        have HSU := Lib.hid hsu
        clear h3 hs1 hr3 hsu
        go_wp2_with fail
        refine HSU.out.mono ?_
        rintro e w4 ⟨s2, v, rfl, h4, hx⟩
        have hr3 := HR3.out
        cases hu : sumS n nm (o + 1) (passT (toks.drop s.i)) with
        | error ep =>
          obtain ⟨c, p⟩ := ep
          rw [hu] at hx hr3
          simp only at hr3
          subst hr3
          obtain ⟨x1, x2, x3, x4, x5, x6, x7, x8⟩ := hx
          have H4 := Lib.hid h4
          clear h4
          go_wp2_with fail
          refine (close_ref [41] H4.out (by omega)).mono ?_
          rintro e w5 ⟨rfl, h5⟩
          have H5 := Lib.hid h5
          clear h5
          go_wp2_with fail
          go_ret
          have h5 := H5.out
          have hc : s2.closes toks [41] = { s2 with o := s2.o - 1 } := by unfold PS.closes PS.take; rw [if_pos (by rw [x1]; exact x2)]
          rw [hc] at h5
          exact ⟨_, _, rfl, h5, x1, x2, x3, by show s.o - 1 ≤ s2.o - 1; omega, by show s2.o - 1 ≤ s.o; omega, x6, x7, by show phi toks s2 ≤ _; omega⟩
        | ok ar =>
          obtain ⟨a, r1⟩ := ar
          rw [hu] at hx hr3
          simp only at hr3
          obtain ⟨x1, x2, x3, ⟨k, rfl, x4⟩, x5, x6⟩ := hx
          have hlt2 := h4.lt
          have hpl41 := isR_sign hk hlt2 (x := [41]) (by decide)
          rw [x2] at hpl41
          have H4 := Lib.hid (And.intro h4 hpl41)
          clear h4 hpl41
          go_wp2_with fail
          refine (close_ref [41] H4.out.1 (by rw [x3]; omega)).mono ?_
          rintro e w5 ⟨rfl, h5⟩
          have H5 := Lib.hid h5
          clear h5
          go_wp2_with fail
          go_ret
          have h5 := H5.out
          cases h41 : isT [41] r1 with
          | true =>
            rw [if_pos h41] at hr3
            subst hr3
            have hi := H4.out.2
            rw [h41] at hi
            have hc : s2.closes toks [41] = { s2.pass with o := s2.o - 1 } := by unfold PS.closes PS.take; rw [if_neg (by simp [x1]), if_pos hi]
            rw [hc] at h5
            refine ⟨_, _, rfl, h5, x1, ?_, ?_, ⟨k, rfl, x4⟩, ?_, ?_⟩
            · show toks.drop (s2.i + 1) = _
              rw [← x2]
              exact drop_pass hlt2 (isR_kind hi)
            · show s2.o - 1 = s.o
              omega
            · rw [← e3]; exact x5
            · have h7 := phi_pass hlt2
              show phi toks s2.pass ≤ _
              omega
          | false =>
            rw [if_neg (by rw [h41]; decide)] at hr3
            subst hr3
            have hi := H4.out.2
            rw [h41] at hi
            obtain ⟨f1, f2, f3, f4, f5⟩ := fail_eq (toks := toks) x1 80
            have hc : s2.closes toks [41] = { s2.fail toks 80 with o := s2.o - 1 } := by unfold PS.closes PS.take; rw [if_neg (by simp [x1]), if_neg (by rw [hi]; simp)]
            rw [hc] at h5
            have hkl := x4.lt
            have h9 := phi_eq (toks := toks) (s := s2) f4 f5
            exact ⟨_, _, rfl, h5, f1, by decide, by rw [← x2]; exact f2, by show s.o - 1 ≤ s2.o - 1; omega, by show s2.o - 1 ≤ s.o; omega, by omega, by unfold phi at x6 e5 hph; omega, by show phi toks (s2.fail toks 80) ≤ _; omega⟩
    | false =>
      have hnb : ¬ ((hereT (toks.drop s.i)).kind = 3 ∧ (hereT (toks.drop s.i)).text = [40]) := by
        intro h3
        have : isT [40] (toks.drop s.i) = true := by unfold isT; rw [h3.1, h3.2]; decide
        rw [h40] at this
        cases this
      have hr2 := H.out.2.2.1
      have HR2 := Lib.hid hr2
      clear hr2
      go_wp2_with fail
      refine (variable_ref H2.out hn hl).mono ?_
      rintro e w3 ⟨rfl, h3⟩
      have hr2 := HR2.out
      by_cases hnn : nameS (toks.drop s.i) = true
      · rw [if_pos hnn] at hr2
        cases hv : varS nm (hereT (toks.drop s.i)).text with
        | none =>
          rw [hv] at hr2
          simp only at hr2
          subst hr2
          have ham : amR nm (s.here toks).text = -1 := by unfold amR; rw [show varS nm (s.here toks).text = none from hv]
          have hvr : s.var toks nm = (s.fail toks 81, 0) := by unfold PS.var; rw [if_neg (by simp [he]), if_neg (by rw [show nmR (s.here toks) = true from hnn]; simp), if_pos (by rw [ham]; decide)]
          rw [hvr] at h3 ⊢
          obtain ⟨f1, f2, f3, f4, f5⟩ := fail_eq (toks := toks) he 81
          have H3 := Lib.hid h3
          clear h3
          go_wp2_with fail
          refine (part0_ref 1 0 0 0 H3.out (by rw [f4]; omega)).mono ?_
          rintro e w4 ⟨rfl, h4⟩
          have H4 := Lib.hid h4
          clear h4
          go_wp2_with fail
          go_ret
          have h9 := phi_eq (toks := toks) (s := s) f4 f5
          exact ⟨_, _, rfl, H4.out, f1, by decide, f2, by show s.o - 1 ≤ (s.fail toks 81).o; omega, by show (s.fail toks 81).o ≤ s.o; omega, by omega, by omega, by rw [phi_add]; omega⟩
        | some v =>
          rw [hv] at hr2
          simp only at hr2
          subst hr2
          have ham : amR nm (s.here toks).text = (v : Int) := by unfold amR; rw [show varS nm (s.here toks).text = some v from hv]
          have hvr : s.var toks nm = (s.pass, (v : Int)) := by unfold PS.var; rw [if_neg (by simp [he]), if_neg (by rw [show nmR (s.here toks) = true from hnn]; simp), if_neg (by rw [ham]; omega), ham]
          rw [hvr] at h3 ⊢
          have H3 := Lib.hid h3
          clear h3
          go_wp2_with fail
          refine (part0_ref 1 v 0 0 H3.out (by show s.parts.length ≤ 100000; omega)).mono ?_
          rintro e w4 ⟨rfl, h4⟩
          have H4 := Lib.hid h4
          clear h4
          go_wp2_with fail
          go_ret
          refine ⟨_, _, rfl, H4.out, he, ?_, rfl, ⟨s.parts.length, rfl, ⟨_, rep_last _ _, rfl, rfl⟩⟩, ⟨_, rfl⟩, ?_⟩
          · exact drop_pass hlt (by show (hereT (toks.drop s.i)).kind ≠ 0; rw [nameS_kind hnn]; decide)
          · rw [phi_add, phi_pass hlt]; exact Nat.le_refl _
      · rw [if_neg hnn, if_pos hnb] at hr2
        subst hr2
        have hvr : s.var toks nm = (s.fail toks 80, 0) := by unfold PS.var; rw [if_neg (by simp [he]), if_pos (show nmR (s.here toks) = false by cases hq : nmR (s.here toks) with | false => rfl | true => exact absurd hq hnn)]
        rw [hvr] at h3 ⊢
        obtain ⟨f1, f2, f3, f4, f5⟩ := fail_eq (toks := toks) he 80
        have H3 := Lib.hid h3
        clear h3
        go_wp2_with fail
        refine (part0_ref 1 0 0 0 H3.out (by rw [f4]; omega)).mono ?_
        rintro e w4 ⟨rfl, h4⟩
        have H4 := Lib.hid h4
        clear h4
        go_wp2_with fail
        go_ret
        have h9 := phi_eq (toks := toks) (s := s) f4 f5
        exact ⟨_, _, rfl, H4.out, f1, by decide, f2, by show s.o - 1 ≤ (s.fail toks 80).o; omega, by show (s.fail toks 80).o ≤ s.o; omega, by omega, by omega, by rw [phi_add]; omega⟩
end Go.Proofs.YtlklijpjacmgpaaGreatDoor
