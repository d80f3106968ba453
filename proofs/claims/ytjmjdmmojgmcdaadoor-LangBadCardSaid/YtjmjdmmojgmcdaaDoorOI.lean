/- LangBack: the walk. -/
import Derived.Test.YtjmjdmmojgmcdaaDoorOH
namespace Go.Proofs.YtjmjdmmojgmcdaaDoor
open Go.RowKit
set_option linter.unusedVariables false
set_option linter.unusedSimpArgs false
attribute [local go_sem ↓] Go.wp_at_zero Go.wp_at_succ

theorem bgsOk_neg : ∀ (l bs : List Bg), BgsOk bs l → ∀ x ∈ l, x.neg = true → x.mag ≠ 0
  | [], bs, h, x, hx => by simp at hx
  | y :: r, bs, h, x, hx => by
    rcases List.mem_cons.1 hx with rfl | hx
    · obtain ⟨_, _, _, _, h1, h2⟩ := h.1
      intro hn
      cases ha : x.any with
      | true => rw [(h1 ha).1] at hn; cases hn
      | false => exact (h2 ha).2 hn
    · exact bgsOk_neg r _ h.2 x hx
theorem Begins_read {s : List UInt8} {w : World} {B P : Nat} {g : Pg} (hs : parseS s = .ok g) (h : PgIs w B P g) :
    Calls Tryd.prog 18 #[.pointer (some ⟨P, 0, none⟩)] w fun e w' => ∃ v, e = .returned v ∧ BgOwn w' w.heap.size v g.begins ∧ Fr No w w' :=
  have q := parse_gd hs
  Begins_calls h q.2.1 (bgsOk_neg _ _ (parse_bk hs).1) (by omega)
theorem Vars_read {s : List UInt8} {w : World} {B P : Nat} {g : Pg} (hs : parseS s = .ok g) (h : PgIs w B P g) :
    Calls Tryd.prog 9 #[.pointer (some ⟨P, 0, none⟩)] w fun e w' => ∃ a c, e = .returned (.slice a g.begins.length c) ∧ NmOwn w' w.heap.size (.slice a g.begins.length c) (g.begins.map Bg.name) ∧ Fr No w w' :=
  Vars_calls h (by have := (parse_gd hs).1; omega)
theorem BgOwn.fr {S : Nat → Prop} {w w' : World} {B : Nat} {v : Value} {l : List Bg} (h : BgOwn w B v l) (f : Fr No w w') : BgOwn w' B v l := by
  obtain ⟨us, h1, h2⟩ := h
  exact ⟨us, own_fr h1 f (fun _ _ x => x), BgsAre.apart f (fun _ _ _ e => e.elim) _ _ h2⟩
theorem nm_form {w : World} {B : Nat} {v : Value} {l : List (List UInt8)} (h : NmOwn w B v l) : ∃ a c, v = .slice a l.length c := own_form (show w.ownsRow B 9 1 v l.length (l.map strV) from h)
theorem bg_form {w : World} {B : Nat} {v : Value} {l : List Bg} (h : BgOwn w B v l) : ∃ a c, v = .slice a l.length c := by
  obtain ⟨us, h1, _⟩ := h
  exact own_form h1
set_option maxRecDepth 100000 in
set_option maxHeartbeats 8000000 in
theorem langBack_calls (s : ByteArray) (hs : s.size ≤ maxLen) {w : World} (hT : Tb w) :
    Calls Tryd.prog 6 #[.string s] w fun e w' => e = .returned (.bool true) ∧ Fr No w w' := by
  have hp := fun (W : World) (hT : Tb W) => parse_calls (w := W) s hs hT
  obtain ⟨pr, hpr⟩ : ∃ pr, parseS s.data.toList = pr := ⟨_, rfl⟩
  rw [hpr] at hp
  have HP := Lib.hid hp
  clear hp
  go_enter Tryd.func6, Tryd.ntmps6
  go_wp2_with fail
  refine (awake_calls hT).mono ?_
  rintro e w1 ⟨rfl, hf1⟩
  have hT1 := hT.no hf1
  clear hT
  go_wp2_with fail
  refine (HP.out _ hT1).mono ?_
  rintro e w2 ⟨hf2, hm2⟩
  have hT2 := hT1.no hf2
  have hF2 := hf1.callNo hf2
  clear hT1 hf1 hf2
  cases pr with
  | error ep =>
    obtain ⟨c, p⟩ := ep
    simp only at hm2
    subst hm2
    have hc := parse_nz hpr
    have hcb : (c != 0) = true := by simp [hc]
    clear hpr hc
    unfold plA
    go_wp2_with fail
    go_ret
    exact ⟨rfl, hF2.alloc _⟩
  | ok g =>
    obtain ⟨P, rfl, hPB, hPg⟩ := hm2
    have hPr := fun (W : World) (f : Fr No w2 W) => Print_read hpr (hPg.fr f)
    have hLr := fun (W : World) (f : Fr No w2 W) => Lines_read hpr (hPg.fr f)
    have hBr := fun (W : World) (f : Fr No w2 W) => Begins_read hpr (hPg.fr f)
    have hVr := fun (W : World) (f : Fr No w2 W) => Vars_read hpr (hPg.fr f)
    have hgd := parse_gd hpr
    have hbk := fun (hl : (pgS g).length ≤ 4096) => back_read hpr hl
    obtain ⟨X, hX⟩ : ∃ X, pgS g = X := ⟨_, rfl⟩
    rw [hX] at hPr hbk hgd
    have hXs : (⟨X.toArray⟩ : ByteArray).size = X.length := rfl
    have hXl : (⟨X.toArray⟩ : ByteArray).data.toList = X := rfl
    have hp2 := fun (W : World) (hT : Tb W) (hl : X.length ≤ 4096) => parse_calls (w := W) ⟨X.toArray⟩ (by rw [hXs]; unfold maxLen; omega) hT
    rw [hXl] at hp2
    obtain ⟨S, hS⟩ : ∃ S : ByteArray, (⟨X.toArray⟩ : ByteArray) = S := ⟨_, rfl⟩
    rw [hS] at hp2 hXs hPr
    have hgl := hgd.1
    have HQ := Lib.hid (And.intro hPr (And.intro hLr (And.intro hBr (And.intro hVr (And.intro hbk (And.intro hp2 (And.intro hS hgd)))))))
    clear hPr hLr hBr hVr hbk hp2 hS hgd hX hXl hPg hPB HP hpr
    unfold plA
    go_wp2_with fail
    have hal := (Fr.refl No w2).alloc (.cells #[.int .i64 zeroPl.b, .int .i64 zeroPl.g, .int .i64 zeroPl.l, .int .i64 zeroPl.c] 26 (0, 0))
    refine (HQ.out.1 _ hal).mono ?_
    rintro e w3 ⟨rfl, hf3⟩
    have hg3 := hal.callNo hf3
    have hT3 := hT2.no hg3
    clear hal hf3 hT2
    by_cases hlen : X.length ≤ 4096
    · have hd1 : decide ((4096 : Int) < (S.size : Int)) = false := by rw [decide_eq_false_iff_not]; omega
      obtain ⟨g', h1, h2, h3, h4⟩ := HQ.out.2.2.2.2.1 hlen
      have hPr' := fun (W : World) (B P : Nat) (h : PgIs W B P g') => Print_read h1 h
      have hLr' := fun (W : World) (B P : Nat) (h : PgIs W B P g') => Lines_read h1 h
      have hBr' := fun (W : World) (B P : Nat) (h : PgIs W B P g') => Begins_read h1 h
      have hVr' := fun (W : World) (B P : Nat) (h : PgIs W B P g') => Vars_read h1 h
      have hln' := lnS_len h1
      have hp2 := fun (W : World) (hT : Tb W) => HQ.out.2.2.2.2.2.1 W hT hlen
      rw [h1] at hp2
      rw [h2, HQ.out.2.2.2.2.2.2.1] at hPr'
      rw [h4] at hBr' hVr'
      have HS := Lib.hid (And.intro hPr' (And.intro hLr' (And.intro hBr' (And.intro hVr' (And.intro hp2 (And.intro h3 hln'))))))
      clear hPr' hLr' hBr' hVr' hp2 h1 h2 h3 h4 hln'
      have htt : (S == S) = true := by have := ba_bne S; unfold bne at this; simpa using this
      go_wp2_with fail
      refine (HS.out.2.2.2.2.1 _ hT3).mono ?_
      rintro e w4 ⟨hf4, P', rfl, _, hPg'⟩
      have hg4 := hg3.callNo hf4
      have hPf := fun (W : World) (f : Fr No w4 W) => hPg'.fr f
      have HPf := Lib.hid hPf
      clear hf4 hg3 hT3 hPf hPg'
      unfold plA
      go_wp2_with fail
      have hk4 := (Fr.refl No w4).alloc (.cells #[.int .i64 zeroPl.b, .int .i64 zeroPl.g, .int .i64 zeroPl.l, .int .i64 zeroPl.c] 26 (0, 0))
      refine (HS.out.1 _ _ _ (HPf.out _ hk4)).mono ?_
      rintro e w5 ⟨rfl, hf5⟩
      have hk5 := hk4.callNo hf5
      clear hk4 hf5
      go_wp2_with fail
      refine (HS.out.2.1 _ _ _ (HPf.out _ hk5)).mono ?_
      rintro e w6 ⟨v6, rfl, o6, hf6⟩
      have hk6 := hk5.callNo hf6
      obtain ⟨a6, c6, rfl⟩ := own_form o6
      clear hk5 hf6
      go_wp2_with fail
      refine (HQ.out.2.1 _ (hg4.callNo hk6)).mono ?_
      rintro e w7 ⟨v7, rfl, o7, hf7⟩
      have hk7 := hk6.callNo hf7
      have o67 : LnOwn w7 _ _ _ := own_fr o6 hf7 (fun _ _ x => x)
      obtain ⟨a7, c7, rfl⟩ := own_form o7
      clear hk6 hf7 o6
      go_wp2_with fail
      refine (sameLines_calls o67 o7 HS.out.2.2.2.2.2.2 HS.out.2.2.2.2.2.1).mono ?_
      rintro e w8 ⟨rfl, hf8⟩
      have hk8 := hk7.callNo hf8
      clear hk7 hf8 o67 o7
      go_wp2_with fail
      refine (HS.out.2.2.1 _ _ _ (HPf.out _ hk8)).mono ?_
      rintro e w9 ⟨v9, rfl, o9, hf9⟩
      have hk9 := hk8.callNo hf9
      obtain ⟨a9, c9, rfl⟩ := bg_form o9
      clear hk8 hf9
      go_wp2_with fail
      refine (HQ.out.2.2.1 _ (hg4.callNo hk9)).mono ?_
      rintro e wa ⟨va, rfl, oa, hfa⟩
      have hka := hk9.callNo hfa
      have o9a := BgOwn.fr (S := No) o9 hfa
      obtain ⟨aa, ca, rfl⟩ := bg_form oa
      clear hk9 hfa o9
      go_wp2_with fail
      refine (sameBegins_calls o9a oa HQ.out.2.2.2.2.2.2.2.2.1 (by omega)).mono ?_
      rintro e wb ⟨rfl, hfb⟩
      have hkb := hka.callNo hfb
      clear hka hfb o9a oa
      go_wp2_with fail
      refine (HS.out.2.2.2.1 _ _ _ (HPf.out _ hkb)).mono ?_
      rintro e wc ⟨ac, cc, rfl, oc, hfc⟩
      have hkc := hkb.callNo hfc
      clear hkb hfc
      go_wp2_with fail
      refine (HQ.out.2.2.2.1 _ (hg4.callNo hkc)).mono ?_
      rintro e wd ⟨ad, cd, rfl, od, hfd⟩
      have hkd := hkc.callNo hfd
      have ocd : NmOwn wd _ _ _ := own_fr oc hfd (fun _ _ x => x)
      clear hkc hfd oc
      go_wp2_with fail
      refine (sameTexts_calls ocd od (by rw [List.length_map]; omega)).mono ?_
      rintro e we ⟨rfl, hfe⟩
      have hF := hF2.callNo (hg4.callNo (hkd.callNo hfe))
      clear hkd hfe ocd od
      go_wp2_with fail
      go_ret
      exact ⟨rfl, hF⟩
    · have hd1 : decide ((4096 : Int) < (S.size : Int)) = true := by rw [decide_eq_true_iff]; omega
      have hF := hF2.callNo hg3
      clear HQ
      go_wp2_with fail
      go_ret
      exact ⟨rfl, hF⟩
end Go.Proofs.YtjmjdmmojgmcdaaDoor
