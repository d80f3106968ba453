/- mark. -/
import Derived.Test.YtjmjdmmojgmcdaaDoorLJ
import Derived.Maps.Own
import Derived.Maps.OwnOps
import Derived.Maps.Views
import Derived.Maps.OwnSet
namespace Go.Proofs.YtjmjdmmojgmcdaaDoor
open Go.RowKit Go.Maps
set_option linter.unusedVariables false
set_option linter.unusedSimpArgs false
attribute [local go_sem ↓] Go.wp_at_zero Go.wp_at_succ

theorem mkLaw : Keyed Tryd.prog 9 := string_keyed Tryd.underlying9
theorem mkZero (w : World) : (zeroValue 3).run Tryd.prog w = .ok (.int .i64 0) w := by kernel_rfl
/-- the marks that were read: a map's block -/
def MkAt (w : World) (m : Nat) (mk : List (List UInt8)) : Prop :=
  ∃ D : DataW Unit, w.ownsMap Tryd.prog 9 (plainElem Tryd.prog 3) m mk.length D ∧ ∀ x : List UInt8, D.atKey (.string x) (.lit (.int .i64 0)) = .lit (.int .i64 (if x ∈ mk then 1 else 0))
theorem MkAt.keep {S : Nat → Prop} {w w' : World} {m : Nat} {mk : List (List UInt8)} (h : MkAt w m mk) (f : Fr S w w') (hS : ¬ S m) : MkAt w' m mk := by
  obtain ⟨D, ⟨es, clock, h1, h2⟩, h3⟩ := h
  have hlt : m < w.heap.size := (Array.getElem?_eq_some_iff.1 h1).1
  exact ⟨D, ⟨es, clock, (f.block m hlt hS).trans h1, h2⟩, h3⟩
theorem MkAt.lt {w : World} {m : Nat} {mk : List (List UInt8)} (h : MkAt w m mk) : m < w.heap.size := by
  obtain ⟨D, ⟨es, clock, h1, _⟩, _⟩ := h
  exact (Array.getElem?_eq_some_iff.1 h1).1

theorem MkAt.none {w : World} {m : Nat} {mk : List (List UInt8)} (h : MkAt w m mk) (i : Nat) : w.cell? ⟨m, i, Option.none⟩ = Option.none := by
  obtain ⟨D, ⟨es, clock, h1, _⟩, _⟩ := h
  simp [World.cell?, h1]
theorem Rdr.map {w w' : World} {b m : Nat} {lv nv mv : Value} {o : Nat} {toks r : List Tok} {mk : List (List UInt8)} (h : Rdr w b lv nv mv o toks r) (hM : MkAt w m mk) (hbm : m ≠ b) (f : Fr (· = m) w w') : Rdr w' b lv nv mv o toks r := by
  obtain ⟨i, x, a, hb, g, c, e1, hgb, hgl, hc⟩ := h
  have hgm : g ≠ m := by
    intro e
    subst e
    have := hc i x a.h 0 (by omega)
    rw [hM.none] at this
    simp [tokC] at this
  refine ⟨i, x, a, hb.fr f hbm.symm, g, c, e1, hgb, Nat.lt_of_lt_of_le hgl f.size, fun i x hx k hk => ?_⟩
  rw [← hc i x hx k hk]
  exact World.cell?_of_block (f.block g hgl hgm)
theorem MkAt.put {w w' : World} {m n : Nat} {mk : List (List UInt8)} {D : DataW Unit} {x : List UInt8} (hown : w.ownsMap Tryd.prog 9 (plainElem Tryd.prog 3) m n D) (hD : ∀ x : List UInt8, D.atKey (.string x) (.lit (.int .i64 0)) = .lit (.int .i64 (if x ∈ mk then 1 else 0))) (h : w'.ownsMap Tryd.prog 9 (plainElem Tryd.prog 3) m (mk.length + 1) (D.put (.string x) (.lit (.int .i64 1)))) : MkAt w' m (x :: mk) := by
  refine ⟨_, h, fun y => ?_⟩
  have hM : IsMap D := by
    obtain ⟨es, clock, _, _, _, hd⟩ := hown
    exact ⟨_, hd⟩
  by_cases e : y = x
  · subst e
    rw [atKey_put_same hM (by trivial)]
    simp
  · rw [atKey_put_other (by intro h; cases h; exact e rfl), hD y]
    simp [e]

set_option maxRecDepth 100000 in
set_option maxHeartbeats 4000000 in
theorem mark_rdr {w : World} {b m : Nat} {lv nv : Value} {o : Nat} {toks r : List Tok} {mk : List (List UInt8)} (hl : toks.length ≤ 5000) (hmk : mk.length ≤ 10000) (p : Pl) (hmb : m < b) (h : Rdr w b lv nv (.map (some m)) o toks r) (hM : MkAt w m mk) :
    Calls Tryd.prog 77 #[.pointer (some ⟨b, 0, none⟩), plV p] w fun e w' => Fr (fun k => k = b ∨ k = m) w w' ∧ match markS p mk r with
      | .error (c, q) => Threw c q e
      | .ok (s, mk1, r1) => ∃ v, e = .returned v ∧ SmIs w' w.heap.size s v ∧ Rdr w' b lv nv (.map (some m)) o toks r1 ∧ MkAt w' m mk1 := by
  have hg := h.good
  obtain ⟨res, hres⟩ : ∃ res, markS p mk r = res := ⟨_, rfl⟩
  rw [hres]
  unfold markS at hres
  have hbl : b < w.heap.size := by obtain ⟨_, _, _, hb, _⟩ := h; exact hb.lt
  go_enter Tryd.func77, Tryd.ntmps77
  go_wp2_with fail
  obtain ⟨T, hT⟩ : ∃ T, (hereT r).text = T := ⟨_, rfl⟩
  rw [hT] at hres
  have hB0 := Blk.new w (plO' p)
  have h0 := h.no ((Fr.refl No w).alloc (plO' p))
  have hM0 := hM.keep ((Fr.refl No w).alloc (plO' p)) (fun x => x)
  have hf0 : Fr (fun k => k = b ∨ k = m) w (w.alloc (plO' p)) := (Fr.refl _ w).alloc _
  have H := Lib.hid (And.intro h hM)
  clear h hM
  refine (name_rdr h0).mono ?_
  rintro e w1 ⟨rfl, hR1, hf1⟩
  have hB1 := hB0.fr hf1 (fun x => x)
  have hM1 := hM0.keep hf1 (fun x => x)
  have hf2 := hf0.callNo hf1
  clear hB0 h0 hM0 hf0 hf1
  obtain ⟨N0, hN0⟩ : ∃ N0, w.heap.size = N0 := ⟨_, rfl⟩
  rw [hN0] at hB1 ⊢
  have HN0 := Lib.hid hN0
  rw [hN0] at hbl
  clear hN0
  cases hnm : nameS r with
  | false =>
    rw [if_pos hnm] at hres
    subst hres
    go_wp2_with fail
    refine (need_rdr hR1 80).mono ?_
    rintro e w2 ⟨ht, hf3⟩
    simp only [Threw] at ht
    subst ht
    go_wp2_with fail
    exact ⟨rfl, hf2.callNo hf3, rfl⟩
  | true =>
    rw [if_neg (by simp [hnm])] at hres
    have hk1 : (hereT r).kind = 1 := by
      simp only [nameS, Bool.and_eq_true, decide_eq_true_eq] at hnm
      exact hnm.1
    have hcs : ∃ cs : List Nat, T = cs.flatMap enc ∧ (∀ c ∈ cs, okc c = true) ∧ T.length ≤ 1024 := by
      cases hg with
      | last q => simp [hereT] at hk1
      | cons a1 a2 a3 a4 a5 =>
        simp only [hereT, List.headD_cons] at hk1 hT
        obtain ⟨cs, q1, q2⟩ := a4.2 hk1
        exact ⟨cs, by rw [← hT]; exact q1, q2, by rw [← hT]; exact a4.1⟩
    obtain ⟨cs, hc1, hc2, hc3⟩ := hcs
    have HC := Lib.hid (And.intro hc1 (And.intro hc2 (And.intro hc3 hk1)))
    clear hc1 hc2 hc3 hk1
    go_wp2_with fail
    refine (need_true b _ _).mono ?_
    rintro e w2 ⟨rfl, rfl⟩
    go_wp2_with fail
    refine (here_rdr hR1).mono ?_
    rintro e w2 ⟨rfl, hR2, hf3⟩
    have hB2 := hB1.fr hf3 (fun x => x)
    have hM2 := hM1.keep hf3 (fun x => x)
    have hf4 := hf2.callNo hf3
    simp only [tokC]
    rw [hT]
    have hft := fld_text
    clear hR1 hB1 hM1 hf2 hf3
    go_wp2_with fail
    refine (lshort_calls T cs HC.out.1 HC.out.2.1 (by have := HC.out.2.2.1; omega) _).mono ?_
    rintro e w3 ⟨rfl, hf5⟩
    have hR3 := hR2.no hf5
    have hB3 := hB2.fr hf5 (fun x => x)
    have hM3 := hM2.keep hf5 (fun x => x)
    have hf6 := hf4.callNo hf5
    clear hR2 hB2 hM2 hf4 hf5
    cases hsh : shortS T with
    | false =>
      rw [if_pos hsh] at hres
      subst hres
      go_wp2_with fail
      refine (need_rdr hR3 42).mono ?_
      rintro e w4 ⟨ht, hf7⟩
      simp only [Threw] at ht
      subst ht
      go_wp2_with fail
      exact ⟨rfl, hf6.callNo hf7, rfl⟩
    | true =>
      rw [if_neg (by simp [hsh])] at hres
      go_wp2_with fail
      refine (need_true b _ _).mono ?_
      rintro e w4 ⟨rfl, rfl⟩
      obtain ⟨i, x, ha, hb, ht⟩ := hR3
      have R := Blk.all hb
      have HR := Lib.hid (And.intro ha (And.intro hb ht))
      clear ha hb ht
      obtain ⟨D, hown, hD⟩ := hM3
      have HD := Lib.hid hD
      clear hD
      have hTs : (⟨T.toArray⟩ : ByteArray).size ≤ maxLen := by rw [Lib.size_eq]; have := HC.out.2.2.1; unfold maxLen; show T.length ≤ _; omega
      go_wp2_with (first | (at_lookup; go_loud (refine wpList_lookup_own_int _ rfl _ _ 97 rfl 9 3 .i64 mkLaw Tryd.underlying97 Tryd.underlying3 (mkZero _) m _ _ rfl hown _ _ rfl (Go.WideMaps.keyOf_string_mk Tryd.underlying9 hTs) ?_; intro c hat hwc)))
      have hc : c = if T ∈ mk then 1 else 0 := by
        have h1 := HD.out T
        have h2 : D.atKey (.string T) (.lit (.int .i64 0)) = .lit (.int .i64 c) := hat
        rw [h1] at h2
        simpa using h2.symm
      have hMk : MkAt w4 m mk := ⟨D, hown, HD.out⟩
      clear hat hwc
      by_cases hin : T ∈ mk
      · have e : c = 1 := by rw [hc, if_pos hin]
        rw [if_pos (by simpa using hin)] at hres
        subst e hres
        clear hc
        go_wp2_with fail
        refine (need_rdr ⟨i, x, HR.out⟩ 82).mono ?_
        rintro e w5 ⟨ht, hf7⟩
        simp only [Threw] at ht
        subst ht
        go_wp2_with fail
        exact ⟨rfl, hf6.callNo hf7, rfl⟩
      · have e : c = 0 := by rw [hc, if_neg hin]
        rw [if_neg (by simpa using hin)] at hres
        subst e
        clear hc
        go_wp2_with fail
        refine (need_true b _ _).mono ?_
        rintro e w5 ⟨rfl, rfl⟩
        go_wp2_with (first | (at_mapUpdate; go_loud (refine wpList_mapUpdate_own _ rfl _ _ _ 97 rfl 9 3 mkLaw Tryd.underlying97 _ m _ _ rfl hown (by unfold maxLen; omega) _ _ _ rfl rfl (Go.WideMaps.keyOf_string_mk Tryd.underlying9 hTs) _ [] (plainElem_int Tryd.underlying3 (by decide)) ?_; intro w6 hown6 hgr6)))
        have hfk : Fr (· = m) w5 w6 := (Fr.refl _ w5).grown hgr6 (fun k hk _ => by cases hk; rfl)
        have hR6 : Rdr w6 b lv nv (.map (some m)) o toks r := Rdr.map ⟨i, x, HR.out⟩ hMk (by omega) hfk
        have hM6 := MkAt.put hown HD.out hown6
        have hB6 := hB3.fr hfk (by omega)
        have hf7 := hf6.call hfk (fun k _ e => Or.inr e)
        clear hown hown6 hgr6 hfk hMk hB3 hf6 R
        refine (pass_rdr (by omega) hR6).mono ?_
        rintro e w7 ⟨rfl, hR7, hf8⟩
        have hB7 := hB6.fr hf8 (by omega)
        have hM7 := hM6.keep hf8 (by omega)
        have hf9 := hf7.call hf8 (fun k _ e => Or.inl e)
        simp only [tokC]
        have hg7 := hg.pass
        clear hR6 hM6 hB6 hf7 hf8
        generalize hrp : passT r = r7 at *
        go_wp2_with fail
        cases hsc : isT [59] r7 with
        | false =>
          have e : mustS [59] r7 = .error (80, (hereT r7).at_) := by unfold mustS; rw [if_neg (by simp [hsc])]
          rw [e] at hres
          subst hres
          refine (must_no (by omega) [59] hR7 hsc).mono ?_
          rintro e w8 ⟨ht, hfA⟩
          simp only [Threw] at ht
          subst ht
          go_wp2_with fail
          exact ⟨rfl, hf9.call hfA (fun k _ e => Or.inl e), rfl⟩
        | true =>
          have e : mustS [59] r7 = .ok (passT r7) := by unfold mustS; rw [if_pos hsc]
          rw [e] at hres
          subst hres
          refine (must_yes (by omega) [59] hR7 hsc).mono ?_
          rintro e w8 ⟨rfl, hR8, hfA⟩
          have hB8 := hB7.fr hfA (by omega)
          have hM8 := hM7.keep hfA (by omega)
          have RN := Blk.all hB8
          go_wp2_with fail
          go_ret
          exact ⟨hf9.call hfA (fun k _ e => Or.inl e), _, rfl, by simp only [SmIs]; rfl, hR8, hM8⟩
end Go.Proofs.YtjmjdmmojgmcdaaDoor
