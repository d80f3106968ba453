/- The reference's parser: unary, product, Sum (printed by gen_qg.py). -/
import Derived.Test.YtlklijpjacmgpaaGreatDoorQF
namespace Go.Proofs.YtlklijpjacmgpaaGreatDoor
open Go.RowKit
set_option linter.unusedVariables false
set_option linter.unusedSimpArgs false
set_option exponentiation.threshold 5000
attribute [local go_sem ↓] Go.wp_at_zero Go.wp_at_succ

theorem PrM.k1 {w0 w : World} {b q : Nat} {Lv Nv Mv Bv Tv : Value} {pl : Pl} {toks : List Tok} {s : PS} (h : PrM w0 w b q Lv Nv Mv Bv Tv pl toks s) (hn : (s.here toks).kind ≠ 0) : PrM w0 (w.setCell ⟨b, 1, none⟩ (.int .i64 ((s.i : Int) + 1))) b q Lv Nv Mv Bv Tv pl toks s.pass :=
  h.set (s' := s.pass) ((Fr.refl (· = b) w).setCell (a := ⟨b, 1, none⟩) (.int .i64 ((s.i : Int) + 1)) (fun _ => rfl)) (h.blk.setOff 1 (.int .i64 ((s.i : Int) + 1))) rfl (h.next hn)
theorem ExO.nat {toks : List Tok} {s s' : PS} {res : Except Er (Nd × List Tok)} {v : Int} (h : ExO toks s res v s') : ∃ k : Nat, v = k := by
  cases res with
  | error ep => obtain ⟨c, p⟩ := ep; obtain ⟨_, _, _, _, _, h1, _⟩ := h; exact ⟨v.toNat, by omega⟩
  | ok ar => obtain ⟨a, r⟩ := ar; obtain ⟨_, _, _, ⟨k, hk, _⟩, _⟩ := h; exact ⟨k, hk⟩
theorem ExO.phi {toks : List Tok} {s s' : PS} {res : Except Er (Nd × List Tok)} {v : Int} (h : ExO toks s res v s') : phi toks s' ≤ phi toks s + 1 := by
  cases res with
  | error ep => obtain ⟨c, p⟩ := ep; exact h.2.2.2.2.2.2.2
  | ok ar => obtain ⟨a, r⟩ := ar; exact Nat.le_succ_of_le h.2.2.2.2.2
theorem phi_parts {toks : List Tok} {s : PS} : s.parts.length ≤ phi toks s := by unfold phi; omega
def negE : Except Er (Nd × List Tok) → Except Er (Nd × List Tok)
  | .error e => .error e
  | .ok (a, r1) => .ok (.minus a, r1)
def twoE (c : Nat) (a1 : Nd) : Except Er (Nd × List Tok) → Except Er (Nd × List Tok)
  | .error e => .error e
  | .ok (a, r1) => .ok (.two c a1 a, r1)
theorem isT_text {x : List UInt8} {r : List Tok} (h : isT x r = true) : (hereT r).text = x := by
  unfold isT at h
  simp only [decide_eq_true_eq] at h
  exact h.1
theorem neg_out {toks : List Tok} {s s' : PS} {res : Except Er (Nd × List Tok)} {k : Nat} (hi : s.i < toks.length) (hph : phi toks s ≤ 9000) (h : ExO toks s.pass res (k : Int) s') : ExO toks s (negE res) (s'.parts.length : Int) (s'.add ⟨2, 0, k, 0, 0⟩) := by
  have h7 := phi_pass hi
  have h8 : phi toks (s'.add ⟨2, 0, k, 0, 0⟩) = phi toks s' + 1 := phi_add _ _ _
  have h9 : s'.parts.length ≤ phi toks s' := phi_parts
  cases res with
  | error ep =>
    obtain ⟨c, p⟩ := ep
    obtain ⟨h1, h2, h3, h4, h5, h6, h10, h11⟩ := h
    exact ⟨h1, h2, h3, h4, h5, by omega, by omega, by omega⟩
  | ok ar =>
    obtain ⟨a, r⟩ := ar
    obtain ⟨h1, h2, h3, ⟨k', hk, h4⟩, h5, h6⟩ := h
    obtain rfl : k = k' := by omega
    exact ⟨h1, h2, h3, ⟨_, rfl, ⟨_, rep_last _ _, rfl, h4.mono ⟨_, rfl⟩⟩⟩, h5.trans ⟨_, rfl⟩, by omega⟩
theorem two_out {toks : List Tok} {s s1 s' : PS} {res : Except Er (Nd × List Tok)} {k1 k : Nat} {a1 : Nd} {r1 : List Tok} (c : Nat) (hi : s1.i < toks.length) (hph : phi toks s ≤ 9000) (h0 : ExO toks s (.ok (a1, r1)) (k1 : Int) s1) (h : ExO toks s1.pass res (k : Int) s') : ExO toks s (twoE c a1 res) (s'.parts.length : Int) (s'.add ⟨opR c, 0, k1, k, 0⟩) := by
  have h7 := phi_pass hi
  have h8 : phi toks (s'.add ⟨opR c, 0, k1, k, 0⟩) = phi toks s' + 1 := phi_add _ _ _
  have h9 : s'.parts.length ≤ phi toks s' := phi_parts
  obtain ⟨g1, g2, g3, ⟨k2, hk2, g4⟩, g5, g6⟩ := h0
  obtain rfl : k1 = k2 := by omega
  have e1 : s1.pass.o = s1.o := rfl
  have e2 : s1.pass.parts = s1.parts := rfl
  cases res with
  | error ep =>
    obtain ⟨c, p⟩ := ep
    obtain ⟨h1, h2, h3, h4, h5, h6, h10, h11⟩ := h
    rw [e1] at h4 h5
    exact ⟨h1, h2, h3, by show s.o - 1 ≤ s'.o; omega, by show s'.o ≤ s.o; omega, by omega, by omega, by omega⟩
  | ok ar =>
    obtain ⟨a, r⟩ := ar
    obtain ⟨h1, h2, h3, ⟨k', hk, h4⟩, h5, h6⟩ := h
    obtain rfl : k = k' := by omega
    rw [e1] at h3
    rw [e2] at h5
    refine ⟨h1, h2, ?_, ⟨_, rfl, ⟨_, rep_last _ _, rfl, g4.mono (h5.trans ⟨_, rfl⟩), h4.mono ⟨_, rfl⟩⟩⟩, g5.trans (h5.trans ⟨_, rfl⟩), by omega⟩
    show s'.o = s.o
    omega
set_option maxRecDepth 100000 in
set_option maxHeartbeats 4000000 in
theorem unary_ref {w0 : World} {b q : Nat} {Lv Nv Mv Bv Tv : Value} {pl : Pl} {toks : List Tok} {nm : List (List UInt8)} {n : Nat} (hk : TkOk toks) (hn : NmIn w0 Nv nm) (hl : nm.length ≤ 1000) (ih : ExR w0 b q Lv Nv Mv Bv Tv pl toks nm n)
    (w : World) (s : PS) (o : Nat) (h : PrM w0 w b q Lv Nv Mv Bv Tv pl toks s) (he : s.err = 0) (ho : s.o = (o : Int)) (ho16 : o ≤ 16) (hph : phi toks s ≤ 9000) (hfu : 4 * (toks.drop s.i).length + 1 ≤ n + 1) :
    Calls Tryz.prog 133 #[.pointer (some ⟨b, 0, none⟩)] w fun e w' => ∃ (s' : PS) (v : Int), e = .returned (.int .i64 v) ∧ PrM w0 w' b q Lv Nv Mv Bv Tv pl toks s' ∧ ExO toks s (unS (n + 1) nm o (toks.drop s.i)) v s' := by
  have hlt := h.lt
  have hle := h.le
  have hgd := good_drop h.gd s.i hlt
  have R := Blk.all h.blk
  have Z := Blk.frees h.blk
  have hbl := h.blk.lt
  have hd : (s.err == 0) = true := by rw [he]; rfl
  have hp45 := isR_sign hk hlt (x := [45]) (by decide)
  have H := Lib.hid (And.intro h hp45)
  clear h hp45
  go_enter Tryz.func133, Tryz.ntmps133
  go_wp2_with fail
  refine (is_ref [45] H.out.1).mono ?_
  rintro e w1 ⟨rfl, h1⟩
  rw [H.out.2]
  cases hm : isT [45] (toks.drop s.i) with
  | false =>
    have H1 := Lib.hid h1
    clear h1
    go_wp2_with fail
    refine (atom_ref hk hn hl ih w1 s o H1.out he ho ho16 hph hfu hm).mono ?_
    rintro e w2 ⟨s2, v, rfl, h2, hx⟩
    have H2 := Lib.hid (And.intro h2 hx)
    clear h2 hx
    go_wp2_with fail
    go_ret
    exact ⟨s2, v, rfl, H2.out⟩
  | true =>
    have hkn : (s.here toks).kind ≠ 0 := isR_kind (H.out.2.trans hm)
    have hdp : toks.drop s.pass.i = passT (toks.drop s.i) := drop_pass hlt hkn
    have hlp := hgd.pass_lt hkn
    have hps := phi_pass hlt
    have h2 := h1.k1 hkn
    have hun := ih.un _ s.pass o h2 he ho ho16 (by omega) (by rw [hdp]; omega)
    rw [hdp] at hun
    clear R Z
    have R := Blk.all h1.blk
    have Z := Blk.frees h1.blk
    have hbl1 := h1.blk.lt
    have HU := Lib.hid hun
    clear h1 h2 hun
    go_wp2_with fail
    refine HU.out.mono ?_
    rintro e w2 ⟨s2, v, rfl, h3, hx⟩
    obtain ⟨k, rfl⟩ := hx.nat
    have hphi := hx.phi
    have hpp : s2.parts.length ≤ 100000 := by have : s2.parts.length ≤ phi toks s2 := phi_parts; omega
    have H3 := Lib.hid (And.intro h3 (And.intro hx hpp))
    clear h3 hx hpp hphi
    go_wp2_with fail
    refine (part0_ref 2 0 k 0 H3.out.1 H3.out.2.2).mono ?_
    rintro e w3 ⟨rfl, h4⟩
    have H4 := Lib.hid h4
    clear h4
    go_wp2_with fail
    go_ret
    refine ⟨_, _, rfl, H4.out, ?_⟩
    have h5 := neg_out hlt hph H3.out.2.1
    rw [unS, if_pos hm]
    cases hu : unS n nm o (passT (toks.drop s.i)) with
    | error ep => rw [hu] at h5; exact h5
    | ok ar => rw [hu] at h5; exact h5
set_option maxRecDepth 100000 in
set_option maxHeartbeats 8000000 in
theorem product_ref {w0 : World} {b q : Nat} {Lv Nv Mv Bv Tv : Value} {pl : Pl} {toks : List Tok} {nm : List (List UInt8)} {n : Nat} (hk : TkOk toks) (ih : ∀ m, m ≤ n → ExR w0 b q Lv Nv Mv Bv Tv pl toks nm m)
    (w : World) (s : PS) (o : Nat) (h : PrM w0 w b q Lv Nv Mv Bv Tv pl toks s) (he : s.err = 0) (ho : s.o = (o : Int)) (ho16 : o ≤ 16) (hph : phi toks s ≤ 9000) (hfu : 4 * (toks.drop s.i).length + 2 ≤ n + 1) :
    Calls Tryz.prog 100 #[.pointer (some ⟨b, 0, none⟩)] w fun e w' => ∃ (s' : PS) (v : Int), e = .returned (.int .i64 v) ∧ PrM w0 w' b q Lv Nv Mv Bv Tv pl toks s' ∧ ExO toks s (prodS (n + 1) nm o (toks.drop s.i)) v s' := by
  have hlt := h.lt
  have hle := h.le
  have hgd := good_drop h.gd s.i hlt
  obtain ⟨res, hres⟩ : ∃ res, prodS (n + 1) nm o (toks.drop s.i) = res := ⟨_, rfl⟩
  rw [hres]
  rw [prodS] at hres
  go_enter Tryz.func100, Tryz.ntmps100
  go_wp2_with fail
  refine ((ih n (Nat.le_refl _)).un w s o h he ho ho16 hph (by omega)).mono ?_
  rintro e w1 ⟨s1, v1, rfl, h1, hx⟩
  have hrel0 : (∃ (sg : PS) (v : Int) (k : Nat) (a : Nd) (r1 : List Tok), v1 = v ∧ PrM w0 w1 b q Lv Nv Mv Bv Tv pl toks sg ∧ ExO toks s (.ok (a, r1)) v sg ∧ prodL k nm o a r1 = res ∧ k ≤ n ∧ 4 * r1.length + 2 ≤ k) ∨ (∃ (sg : PS), PrM w0 w1 b q Lv Nv Mv Bv Tv pl toks sg ∧ ExO toks s res v1 sg ∧ sg.err ≠ 0) := by
    cases hu : unS n nm o (toks.drop s.i) with
    | error ep =>
      obtain ⟨c, p⟩ := ep
      rw [hu] at hx hres
      simp only at hres
      subst hres
      exact Or.inr ⟨s1, h1, hx, by rw [hx.1]; exact hx.2.1⟩
    | ok ar =>
      obtain ⟨a, r1⟩ := ar
      rw [hu] at hx hres
      simp only at hres
      exact Or.inl ⟨s1, v1, n, a, r1, rfl, h1, hx, hres, Nat.le_refl _, by have := ((ex_len nm n).un hgd hu).2; omega⟩
  clear hx h1 h hres
  have HREL := Lib.hid hrel0
  clear hrel0 hgd
  go_wp2_with fail
  go_loopg [3] (toks.length) (fun gk x3 wr => ∃ v1 : Int, x3 = .int .i64 v1 ∧ ((∃ (sg : PS) (v : Int) (k : Nat) (a : Nd) (r1 : List Tok), v1 = v ∧ PrM w0 wr b q Lv Nv Mv Bv Tv pl toks sg ∧ ExO toks s (.ok (a, r1)) v sg ∧ prodL k nm o a r1 = res ∧ k ≤ n ∧ 4 * r1.length + 2 ≤ k ∧ r1.length ≤ gk) ∨ (∃ (sg : PS), PrM w0 wr b q Lv Nv Mv Bv Tv pl toks sg ∧ ExO toks s res v1 sg ∧ sg.err ≠ 0)))
  case atStart =>
    refine ⟨v1, rfl, ?_⟩
    rcases HREL.out with ⟨sg, v, k, a, r1, e1, e2, e3, e4, e5, e6⟩ | h2
    · refine Or.inl ⟨sg, v, k, a, r1, e1, e2, e3, e4, e5, e6, ?_⟩
      have e7 := e3.2.1
      rw [← e7, List.length_drop]
      omega
    · exact Or.inr h2
  case round =>
    clear HREL
    obtain ⟨v1, rfl, hL | hR⟩ := hrel
    · obtain ⟨sg, v, k, a, r1, rfl, hP, hX, hres, hkn, hkm, hgk⟩ := hL
      obtain ⟨k, rfl⟩ : ∃ k', k = k' + 1 := ⟨k - 1, by omega⟩
      rw [prodL] at hres
      obtain ⟨x1, x2, x3, x4, x5, x6⟩ := id hX
      obtain ⟨k1, rfl⟩ := hX.nat
      have hltg := hP.lt
      have hgd := good_drop hP.gd sg.i hltg
      rw [x2] at hgd
      have hd : (sg.err == 0) = true := by rw [x1]; rfl
      have R := Blk.all hP.blk
      have Z := Blk.frees hP.blk
      have hbl := hP.blk.lt
      have hp42 := isR_sign hk hltg (x := [42]) (by decide)
      rw [x2] at hp42
      have hp47 := isR_sign hk hltg (x := [47]) (by decide)
      rw [x2] at hp47
      have hp37 := isR_sign hk hltg (x := [37]) (by decide)
      rw [x2] at hp37
      have H := Lib.hid (And.intro hP (And.intro hX hres))
      clear hP hX hres x4
      have HG := Lib.hid hgk
      clear hgk
      go_wp2_with fail
      refine (is_ref [42] H.out.1).mono ?_
      rintro e w2 ⟨rfl, hq42⟩
      rw [hp42]
      cases h42 : isT [42] r1 with
      | true =>
        clear R Z
        have R := Blk.all hq42.blk
        have Z := Blk.frees hq42.blk
        have hbl8 := hq42.blk.lt
        have hkc : (sg.here toks).kind ≠ 0 := isR_kind (hp42.trans h42)
        have hdp : toks.drop sg.pass.i = passT r1 := by rw [← x2]; exact drop_pass hltg hkc
        have hlp := hgd.pass_lt (by rw [← x2]; exact hkc)
        have hps := phi_pass hltg
        have h2 := hq42.k1 hkc
        have hun := (ih k (by omega)).un _ sg.pass o h2 x1 (x3.trans ho) ho16 (by omega) (by rw [hdp]; omega)
        rw [hdp] at hun
        have HU := Lib.hid hun
        clear h2 hun
        go_wp2_with fail
        refine HU.out.mono ?_
        rintro e w4 ⟨s2, v2, rfl, h3, hx⟩
        obtain ⟨k2, rfl⟩ := hx.nat
        have hphi := hx.phi
        have hpp : s2.parts.length ≤ 100000 := by have : s2.parts.length ≤ phi toks s2 := phi_parts; omega
        have H3 := Lib.hid (And.intro h3 (And.intro hx hpp))
        clear h3 hx hpp hphi
        go_wp2_with fail
        refine (part0_ref (opR 42) 0 k1 k2 H3.out.1 H3.out.2.2).mono ?_
        rintro e w5 ⟨rfl, h4⟩
        have H4 := Lib.hid h4
        clear h4
        go_wp2_with fail
        have h5 := two_out 42 hltg hph H.out.2.1 H3.out.2.1
        have hr := H.out.2.2
        cases hu : unS k nm o (passT r1) with
        | error ep =>
          obtain ⟨c, p⟩ := ep
          rw [hu] at hr
          rw [hu] at h5
          simp only [h42, Bool.false_eq_true, if_true, if_false] at hr
          subst hr
          go_roundg (r1.length - 1)
          case measure => have := HG.out; omega
          case rel => exact ⟨_, rfl, Or.inr ⟨_, H4.out, h5, by have := H3.out.2.1; rw [hu] at this; show s2.err ≠ 0; rw [this.1]; exact this.2.1⟩⟩
        | ok ar =>
          obtain ⟨a2, r2⟩ := ar
          rw [hu] at hr
          rw [hu] at h5
          simp only [h42, Bool.false_eq_true, if_true, if_false] at hr
          have hl2 := ((ex_len nm k).un hgd.pass hu).2
          go_roundg r2.length
          case measure => have := HG.out; omega
          case rel => exact ⟨_, rfl, Or.inl ⟨_, _, k, .two 42 a a2, r2, rfl, H4.out, h5, hr, by omega, by omega, Nat.le_refl _⟩⟩
      | false =>
        clear R Z
        have R := Blk.all hq42.blk
        have Z := Blk.frees hq42.blk
        have hbl8 := hq42.blk.lt
        have HQ42 := Lib.hid hq42
        clear hq42
        go_wp2_with fail
        refine (is_ref [47] HQ42.out).mono ?_
        rintro e w2 ⟨rfl, hq47⟩
        rw [hp47]
        cases h47 : isT [47] r1 with
        | true =>
          clear R Z
          have R := Blk.all hq47.blk
          have Z := Blk.frees hq47.blk
          have hbl10 := hq47.blk.lt
          have hkc : (sg.here toks).kind ≠ 0 := isR_kind (hp47.trans h47)
          have hdp : toks.drop sg.pass.i = passT r1 := by rw [← x2]; exact drop_pass hltg hkc
          have hlp := hgd.pass_lt (by rw [← x2]; exact hkc)
          have hps := phi_pass hltg
          have h2 := hq47.k1 hkc
          have hun := (ih k (by omega)).un _ sg.pass o h2 x1 (x3.trans ho) ho16 (by omega) (by rw [hdp]; omega)
          rw [hdp] at hun
          have HU := Lib.hid hun
          clear h2 hun
          go_wp2_with fail
          refine HU.out.mono ?_
          rintro e w4 ⟨s2, v2, rfl, h3, hx⟩
          obtain ⟨k2, rfl⟩ := hx.nat
          have hphi := hx.phi
          have hpp : s2.parts.length ≤ 100000 := by have : s2.parts.length ≤ phi toks s2 := phi_parts; omega
          have H3 := Lib.hid (And.intro h3 (And.intro hx hpp))
          clear h3 hx hpp hphi
          go_wp2_with fail
          refine (part0_ref (opR 47) 0 k1 k2 H3.out.1 H3.out.2.2).mono ?_
          rintro e w5 ⟨rfl, h4⟩
          have H4 := Lib.hid h4
          clear h4
          go_wp2_with fail
          have h5 := two_out 47 hltg hph H.out.2.1 H3.out.2.1
          have hr := H.out.2.2
          cases hu : unS k nm o (passT r1) with
          | error ep =>
            obtain ⟨c, p⟩ := ep
            rw [hu] at hr
            rw [hu] at h5
            simp only [h42, h47, Bool.false_eq_true, if_true, if_false] at hr
            subst hr
            go_roundg (r1.length - 1)
            case measure => have := HG.out; omega
            case rel => exact ⟨_, rfl, Or.inr ⟨_, H4.out, h5, by have := H3.out.2.1; rw [hu] at this; show s2.err ≠ 0; rw [this.1]; exact this.2.1⟩⟩
          | ok ar =>
            obtain ⟨a2, r2⟩ := ar
            rw [hu] at hr
            rw [hu] at h5
            simp only [h42, h47, Bool.false_eq_true, if_true, if_false] at hr
            have hl2 := ((ex_len nm k).un hgd.pass hu).2
            go_roundg r2.length
            case measure => have := HG.out; omega
            case rel => exact ⟨_, rfl, Or.inl ⟨_, _, k, .two 47 a a2, r2, rfl, H4.out, h5, hr, by omega, by omega, Nat.le_refl _⟩⟩
        | false =>
          clear R Z
          have R := Blk.all hq47.blk
          have Z := Blk.frees hq47.blk
          have hbl10 := hq47.blk.lt
          have HQ47 := Lib.hid hq47
          clear hq47
          go_wp2_with fail
          refine (is_ref [37] HQ47.out).mono ?_
          rintro e w2 ⟨rfl, hq37⟩
          rw [hp37]
          cases h37 : isT [37] r1 with
          | true =>
            clear R Z
            have R := Blk.all hq37.blk
            have Z := Blk.frees hq37.blk
            have hbl12 := hq37.blk.lt
            have hkc : (sg.here toks).kind ≠ 0 := isR_kind (hp37.trans h37)
            have hdp : toks.drop sg.pass.i = passT r1 := by rw [← x2]; exact drop_pass hltg hkc
            have hlp := hgd.pass_lt (by rw [← x2]; exact hkc)
            have hps := phi_pass hltg
            have h2 := hq37.k1 hkc
            have hun := (ih k (by omega)).un _ sg.pass o h2 x1 (x3.trans ho) ho16 (by omega) (by rw [hdp]; omega)
            rw [hdp] at hun
            have HU := Lib.hid hun
            clear h2 hun
            go_wp2_with fail
            refine HU.out.mono ?_
            rintro e w4 ⟨s2, v2, rfl, h3, hx⟩
            obtain ⟨k2, rfl⟩ := hx.nat
            have hphi := hx.phi
            have hpp : s2.parts.length ≤ 100000 := by have : s2.parts.length ≤ phi toks s2 := phi_parts; omega
            have H3 := Lib.hid (And.intro h3 (And.intro hx hpp))
            clear h3 hx hpp hphi
            go_wp2_with fail
            refine (part0_ref (opR 37) 0 k1 k2 H3.out.1 H3.out.2.2).mono ?_
            rintro e w5 ⟨rfl, h4⟩
            have H4 := Lib.hid h4
            clear h4
            go_wp2_with fail
            have h5 := two_out 37 hltg hph H.out.2.1 H3.out.2.1
            have hr := H.out.2.2
            cases hu : unS k nm o (passT r1) with
            | error ep =>
              obtain ⟨c, p⟩ := ep
              rw [hu] at hr
              rw [hu] at h5
              simp only [h42, h47, h37, Bool.false_eq_true, if_true, if_false] at hr
              subst hr
              go_roundg (r1.length - 1)
              case measure => have := HG.out; omega
              case rel => exact ⟨_, rfl, Or.inr ⟨_, H4.out, h5, by have := H3.out.2.1; rw [hu] at this; show s2.err ≠ 0; rw [this.1]; exact this.2.1⟩⟩
            | ok ar =>
              obtain ⟨a2, r2⟩ := ar
              rw [hu] at hr
              rw [hu] at h5
              simp only [h42, h47, h37, Bool.false_eq_true, if_true, if_false] at hr
              have hl2 := ((ex_len nm k).un hgd.pass hu).2
              go_roundg r2.length
              case measure => have := HG.out; omega
              case rel => exact ⟨_, rfl, Or.inl ⟨_, _, k, .two 37 a a2, r2, rfl, H4.out, h5, hr, by omega, by omega, Nat.le_refl _⟩⟩
          | false =>
            clear R Z
            have R := Blk.all hq37.blk
            have Z := Blk.frees hq37.blk
            have hbl12 := hq37.blk.lt
            have HQ37 := Lib.hid hq37
            clear hq37
            have hr := H.out.2.2
            simp only [h42, h47, h37, Bool.false_eq_true, if_false] at hr
            go_wp2_with fail
            go_ret
            subst hr
            exact ⟨sg, _, rfl, HQ37.out, H.out.2.1⟩
    · obtain ⟨sg, hP, hX, hne⟩ := hR
      have hd : (sg.err == 0) = false := by rw [beq_eq_false_iff_ne]; exact hne
      have R := Blk.all hP.blk
      have Z := Blk.frees hP.blk
      have hbl := hP.blk.lt
      have H := Lib.hid (And.intro hP hX)
      clear hP hX
      go_wp2_with fail
      go_ret
      exact ⟨sg, _, rfl, H.out⟩
set_option maxRecDepth 100000 in
set_option maxHeartbeats 8000000 in
theorem sum_ref {w0 : World} {b q : Nat} {Lv Nv Mv Bv Tv : Value} {pl : Pl} {toks : List Tok} {nm : List (List UInt8)} {n : Nat} (hk : TkOk toks) (ih : ∀ m, m ≤ n → ExR w0 b q Lv Nv Mv Bv Tv pl toks nm m)
    (w : World) (s : PS) (o : Nat) (h : PrM w0 w b q Lv Nv Mv Bv Tv pl toks s) (he : s.err = 0) (ho : s.o = (o : Int)) (ho16 : o ≤ 16) (hph : phi toks s ≤ 9000) (hfu : 4 * (toks.drop s.i).length + 3 ≤ n + 1) :
    Calls Tryz.prog 57 #[.pointer (some ⟨b, 0, none⟩)] w fun e w' => ∃ (s' : PS) (v : Int), e = .returned (.int .i64 v) ∧ PrM w0 w' b q Lv Nv Mv Bv Tv pl toks s' ∧ ExO toks s (sumS (n + 1) nm o (toks.drop s.i)) v s' := by
  have hlt := h.lt
  have hle := h.le
  have hgd := good_drop h.gd s.i hlt
  obtain ⟨res, hres⟩ : ∃ res, sumS (n + 1) nm o (toks.drop s.i) = res := ⟨_, rfl⟩
  rw [hres]
  rw [sumS] at hres
  go_enter Tryz.func57, Tryz.ntmps57
  go_wp2_with fail
  refine ((ih n (Nat.le_refl _)).pr w s o h he ho ho16 hph (by omega)).mono ?_
  rintro e w1 ⟨s1, v1, rfl, h1, hx⟩
  have hrel0 : (∃ (sg : PS) (v : Int) (k : Nat) (a : Nd) (r1 : List Tok), v1 = v ∧ PrM w0 w1 b q Lv Nv Mv Bv Tv pl toks sg ∧ ExO toks s (.ok (a, r1)) v sg ∧ sumL k nm o a r1 = res ∧ k ≤ n ∧ 4 * r1.length + 3 ≤ k) ∨ (∃ (sg : PS), PrM w0 w1 b q Lv Nv Mv Bv Tv pl toks sg ∧ ExO toks s res v1 sg ∧ sg.err ≠ 0) := by
    cases hu : prodS n nm o (toks.drop s.i) with
    | error ep =>
      obtain ⟨c, p⟩ := ep
      rw [hu] at hx hres
      simp only at hres
      subst hres
      exact Or.inr ⟨s1, h1, hx, by rw [hx.1]; exact hx.2.1⟩
    | ok ar =>
      obtain ⟨a, r1⟩ := ar
      rw [hu] at hx hres
      simp only at hres
      exact Or.inl ⟨s1, v1, n, a, r1, rfl, h1, hx, hres, Nat.le_refl _, by have := ((ex_len nm n).pr hgd hu).2; omega⟩
  clear hx h1 h hres
  have HREL := Lib.hid hrel0
  clear hrel0 hgd
  go_wp2_with fail
  go_loopg [3] (toks.length) (fun gk x3 wr => ∃ v1 : Int, x3 = .int .i64 v1 ∧ ((∃ (sg : PS) (v : Int) (k : Nat) (a : Nd) (r1 : List Tok), v1 = v ∧ PrM w0 wr b q Lv Nv Mv Bv Tv pl toks sg ∧ ExO toks s (.ok (a, r1)) v sg ∧ sumL k nm o a r1 = res ∧ k ≤ n ∧ 4 * r1.length + 3 ≤ k ∧ r1.length ≤ gk) ∨ (∃ (sg : PS), PrM w0 wr b q Lv Nv Mv Bv Tv pl toks sg ∧ ExO toks s res v1 sg ∧ sg.err ≠ 0)))
  case atStart =>
    refine ⟨v1, rfl, ?_⟩
    rcases HREL.out with ⟨sg, v, k, a, r1, e1, e2, e3, e4, e5, e6⟩ | h2
    · refine Or.inl ⟨sg, v, k, a, r1, e1, e2, e3, e4, e5, e6, ?_⟩
      have e7 := e3.2.1
      rw [← e7, List.length_drop]
      omega
    · exact Or.inr h2
  case round =>
    clear HREL
    obtain ⟨v1, rfl, hL | hR⟩ := hrel
    · obtain ⟨sg, v, k, a, r1, rfl, hP, hX, hres, hkn, hkm, hgk⟩ := hL
      obtain ⟨k, rfl⟩ : ∃ k', k = k' + 1 := ⟨k - 1, by omega⟩
      rw [sumL] at hres
      obtain ⟨x1, x2, x3, x4, x5, x6⟩ := id hX
      obtain ⟨k1, rfl⟩ := hX.nat
      have hltg := hP.lt
      have hgd := good_drop hP.gd sg.i hltg
      rw [x2] at hgd
      have hd : (sg.err == 0) = true := by rw [x1]; rfl
      have R := Blk.all hP.blk
      have Z := Blk.frees hP.blk
      have hbl := hP.blk.lt
      have hp43 := isR_sign hk hltg (x := [43]) (by decide)
      rw [x2] at hp43
      have hp45 := isR_sign hk hltg (x := [45]) (by decide)
      rw [x2] at hp45
      have H := Lib.hid (And.intro hP (And.intro hX hres))
      clear hP hX hres x4
      have HG := Lib.hid hgk
      clear hgk
      go_wp2_with fail
      refine (is_ref [43] H.out.1).mono ?_
      rintro e w2 ⟨rfl, hq43⟩
      rw [hp43]
      cases h43 : isT [43] r1 with
      | true =>
        have h45 : isT [45] r1 = false := by cases hz : isT [45] r1 with | false => rfl | true => exact absurd (by have a1 := isT_text h43; have a2 := isT_text hz; rw [a1] at a2; exact a2) (by decide)
        have HQ43 := Lib.hid hq43
        clear hq43
        go_wp2_with fail
        refine (is_ref [45] HQ43.out).mono ?_
        rintro e w3 ⟨rfl, hz45⟩
        rw [hp45, h45]
        clear R Z
        have R := Blk.all hz45.blk
        have Z := Blk.frees hz45.blk
        have hbl8 := hz45.blk.lt
        have hkc : (sg.here toks).kind ≠ 0 := isR_kind (hp43.trans h43)
        have hdp : toks.drop sg.pass.i = passT r1 := by rw [← x2]; exact drop_pass hltg hkc
        have hlp := hgd.pass_lt (by rw [← x2]; exact hkc)
        have hps := phi_pass hltg
        have h2 := hz45.k1 hkc
        have hun := (ih k (by omega)).pr _ sg.pass o h2 x1 (x3.trans ho) ho16 (by omega) (by rw [hdp]; omega)
        rw [hdp] at hun
        have HU := Lib.hid hun
        clear h2 hun
        go_wp2_with fail
        refine HU.out.mono ?_
        rintro e w4 ⟨s2, v2, rfl, h3, hx⟩
        obtain ⟨k2, rfl⟩ := hx.nat
        have hphi := hx.phi
        have hpp : s2.parts.length ≤ 100000 := by have : s2.parts.length ≤ phi toks s2 := phi_parts; omega
        have H3 := Lib.hid (And.intro h3 (And.intro hx hpp))
        clear h3 hx hpp hphi
        go_wp2_with fail
        refine (part0_ref (opR 43) 0 k1 k2 H3.out.1 H3.out.2.2).mono ?_
        rintro e w5 ⟨rfl, h4⟩
        have H4 := Lib.hid h4
        clear h4
        go_wp2_with fail
        have h5 := two_out 43 hltg hph H.out.2.1 H3.out.2.1
        have hr := H.out.2.2
        cases hu : prodS k nm o (passT r1) with
        | error ep =>
          obtain ⟨c, p⟩ := ep
          rw [hu] at hr
          rw [hu] at h5
          simp only [h43, Bool.false_eq_true, if_true, if_false] at hr
          subst hr
          go_roundg (r1.length - 1)
          case measure => have := HG.out; omega
          case rel => exact ⟨_, rfl, Or.inr ⟨_, H4.out, h5, by have := H3.out.2.1; rw [hu] at this; show s2.err ≠ 0; rw [this.1]; exact this.2.1⟩⟩
        | ok ar =>
          obtain ⟨a2, r2⟩ := ar
          rw [hu] at hr
          rw [hu] at h5
          simp only [h43, Bool.false_eq_true, if_true, if_false] at hr
          have hl2 := ((ex_len nm k).pr hgd.pass hu).2
          go_roundg r2.length
          case measure => have := HG.out; omega
          case rel => exact ⟨_, rfl, Or.inl ⟨_, _, k, .two 43 a a2, r2, rfl, H4.out, h5, hr, by omega, by omega, Nat.le_refl _⟩⟩
      | false =>
        have HQ43 := Lib.hid hq43
        clear hq43
        go_wp2_with fail
        refine (is_ref [45] HQ43.out).mono ?_
        rintro e w3 ⟨rfl, hz45⟩
        rw [hp45]
        cases h45 : isT [45] r1 with
        | true =>
          have HZ45 := Lib.hid hz45
          clear hz45
          go_wp2_with fail
          refine (is_ref [45] HZ45.out).mono ?_
          rintro e w6 ⟨rfl, hy45⟩
          rw [hp45, h45]
          clear R Z
          have R := Blk.all hy45.blk
          have Z := Blk.frees hy45.blk
          have hbl10 := hy45.blk.lt
          have hkc : (sg.here toks).kind ≠ 0 := isR_kind (hp45.trans h45)
          have hdp : toks.drop sg.pass.i = passT r1 := by rw [← x2]; exact drop_pass hltg hkc
          have hlp := hgd.pass_lt (by rw [← x2]; exact hkc)
          have hps := phi_pass hltg
          have h2 := hy45.k1 hkc
          have hun := (ih k (by omega)).pr _ sg.pass o h2 x1 (x3.trans ho) ho16 (by omega) (by rw [hdp]; omega)
          rw [hdp] at hun
          have HU := Lib.hid hun
          clear h2 hun
          go_wp2_with fail
          refine HU.out.mono ?_
          rintro e w4 ⟨s2, v2, rfl, h3, hx⟩
          obtain ⟨k2, rfl⟩ := hx.nat
          have hphi := hx.phi
          have hpp : s2.parts.length ≤ 100000 := by have : s2.parts.length ≤ phi toks s2 := phi_parts; omega
          have H3 := Lib.hid (And.intro h3 (And.intro hx hpp))
          clear h3 hx hpp hphi
          go_wp2_with fail
          refine (part0_ref (opR 45) 0 k1 k2 H3.out.1 H3.out.2.2).mono ?_
          rintro e w5 ⟨rfl, h4⟩
          have H4 := Lib.hid h4
          clear h4
          go_wp2_with fail
          have h5 := two_out 45 hltg hph H.out.2.1 H3.out.2.1
          have hr := H.out.2.2
          cases hu : prodS k nm o (passT r1) with
          | error ep =>
            obtain ⟨c, p⟩ := ep
            rw [hu] at hr
            rw [hu] at h5
            simp only [h43, h45, Bool.false_eq_true, if_true, if_false] at hr
            subst hr
            go_roundg (r1.length - 1)
            case measure => have := HG.out; omega
            case rel => exact ⟨_, rfl, Or.inr ⟨_, H4.out, h5, by have := H3.out.2.1; rw [hu] at this; show s2.err ≠ 0; rw [this.1]; exact this.2.1⟩⟩
          | ok ar =>
            obtain ⟨a2, r2⟩ := ar
            rw [hu] at hr
            rw [hu] at h5
            simp only [h43, h45, Bool.false_eq_true, if_true, if_false] at hr
            have hl2 := ((ex_len nm k).pr hgd.pass hu).2
            go_roundg r2.length
            case measure => have := HG.out; omega
            case rel => exact ⟨_, rfl, Or.inl ⟨_, _, k, .two 45 a a2, r2, rfl, H4.out, h5, hr, by omega, by omega, Nat.le_refl _⟩⟩
        | false =>
          clear R Z
          have R := Blk.all hz45.blk
          have Z := Blk.frees hz45.blk
          have hbl10 := hz45.blk.lt
          have HZ45 := Lib.hid hz45
          clear hz45
          have hr := H.out.2.2
          simp only [h43, h45, Bool.false_eq_true, if_false] at hr
          go_wp2_with fail
          go_ret
          subst hr
          exact ⟨sg, _, rfl, HZ45.out, H.out.2.1⟩
    · obtain ⟨sg, hP, hX, hne⟩ := hR
      have hd : (sg.err == 0) = false := by rw [beq_eq_false_iff_ne]; exact hne
      have R := Blk.all hP.blk
      have Z := Blk.frees hP.blk
      have hbl := hP.blk.lt
      have H := Lib.hid (And.intro hP hX)
      clear hP hX
      go_wp2_with fail
      go_ret
      exact ⟨sg, _, rfl, H.out⟩
theorem exr_all {w0 : World} {b q : Nat} {Lv Nv Mv Bv Tv : Value} {pl : Pl} {toks : List Tok} {nm : List (List UInt8)} (hk : TkOk toks) (hn : NmIn w0 Nv nm) (hl : nm.length ≤ 1000) : ∀ n, ∀ m, m ≤ n → ExR w0 b q Lv Nv Mv Bv Tv pl toks nm m
  | 0, m, hm => by
    obtain rfl : m = 0 := by omega
    exact ⟨fun _ _ _ _ _ _ _ _ h => by omega, fun _ _ _ _ _ _ _ _ h => by omega, fun _ _ _ _ _ _ _ _ h => by omega⟩
  | n + 1, m, hm => by
    have ih := exr_all hk hn hl (w0 := w0) (b := b) (q := q) (Lv := Lv) (Mv := Mv) (Bv := Bv) (Tv := Tv) (pl := pl) n
    by_cases e : m ≤ n
    · exact ih m e
    · obtain rfl : m = n + 1 := by omega
      exact ⟨fun w s o h he ho ho16 hph hfu => unary_ref hk hn hl (ih n (Nat.le_refl _)) w s o h he ho ho16 hph hfu, fun w s o h he ho ho16 hph hfu => product_ref hk ih w s o h he ho ho16 hph hfu, fun w s o h he ho ho16 hph hfu => sum_ref hk ih w s o h he ho ho16 hph hfu⟩
end Go.Proofs.YtlklijpjacmgpaaGreatDoor
