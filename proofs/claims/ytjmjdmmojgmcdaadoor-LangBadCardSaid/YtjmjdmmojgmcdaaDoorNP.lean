/- LangSigns: the walk. -/
import Derived.Test.YtjmjdmmojgmcdaaDoorNO
import Derived.Test.YtjmjdmmojgmcdaaDoorNK
import Derived.Test.YtjmjdmmojgmcdaaDoorNE
namespace Go.Proofs.YtjmjdmmojgmcdaaDoor
open Go.RowKit
set_option linter.unusedVariables false
set_option linter.unusedSimpArgs false
attribute [local go_sem ↓] Go.wp_at_zero Go.wp_at_succ

theorem Lines_read {s : List UInt8} {w : World} {B P : Nat} {g : Pg} (hs : parseS s = .ok g) (h : PgIs w B P g) :
    Calls Tryd.prog 16 #[.pointer (some ⟨P, 0, none⟩)] w fun e w' => ∃ v, e = .returned v ∧ LnOwn w' w.heap.size v (lnS g) ∧ Fr No w w' :=
  have q := parse_gd hs
  Lines_calls h q.2.1 q.2.2.1 q.2.2.2.1 q.2.2.2.2 (by omega)
theorem lnS_len {s : List UInt8} {g : Pg} (hs : parseS s = .ok g) : (lnS g).length ≤ 100000 := by
  have q := (parse_gd hs).2.2.2.1
  have := lnSms_len 0 g.body
  simp only [lnS, List.length_cons]
  omega
set_option maxRecDepth 100000 in
set_option maxHeartbeats 8000000 in
theorem langSigns_calls (s : ByteArray) (which : Int) (hs : s.size ≤ maxLen) (hw : -9223372036854775808 ≤ which ∧ which ≤ 9223372036854775807) {w : World} (hT : Tb w) :
    Calls Tryd.prog 5 #[.string s, .int .i64 which] w fun e w' => e = .returned (.bool true) ∧ Fr No w w' := by
  have hp := fun (W : World) (hT : Tb W) => parse_calls (w := W) s hs hT
  have hsc := fun (W : World) (hT : Tb W) => Scan_any s W hT hs
  obtain ⟨pr, hpr⟩ : ∃ pr, parseS s.data.toList = pr := ⟨_, rfl⟩
  rw [hpr] at hp
  have HP := Lib.hid (And.intro hp hsc)
  clear hp hsc
  go_enter Tryd.func5, Tryd.ntmps5
  go_wp2_with fail
  refine (awake_calls hT).mono ?_
  rintro e w1 ⟨rfl, hf1⟩
  have hT1 := hT.no hf1
  clear hT
  go_wp2_with fail
  refine (HP.out.1 _ hT1).mono ?_
  rintro e w2 ⟨hf2, hm2⟩
  have hT2 := hT1.no hf2
  have hF2 := hf1.callNo hf2
  clear hT1 hf1 hf2
  cases pr with
  | error ep =>
    obtain ⟨c, p⟩ := ep
    simp only at hm2
    subst hm2
    have hc := parse_nz hpr
    have hcb : (c != 0) = true := by simp [hc]
    clear hpr hc
    unfold plA
    go_wp2_with fail
    have hal := (Fr.refl No w2).alloc (.cells #[.int .i64 p.b, .int .i64 p.g, .int .i64 p.l, .int .i64 p.c] 26 (0, 0))
    refine (HP.out.2 _ (hT2.no hal)).mono ?_
    rintro e w3 ⟨a3, c3, rfl, _, hf3⟩
    have hF3 := (hF2.callNo hal).callNo hf3
    clear hF2 hal hf3 hT2
    unfold plA
    go_wp2_with fail
    go_ret
    exact ⟨rfl, hF3.alloc _⟩
  | ok g =>
    obtain ⟨P, rfl, hPB, hPg⟩ := hm2
    have hPr := fun (W : World) (f : Fr No w2 W) => Print_read hpr (hPg.fr f)
    have hLr := fun (W : World) (f : Fr No w2 W) => Lines_read hpr (hPg.fr f)
    have hln := lnS_len hpr
    obtain ⟨toks, hsk, hrd⟩ := signs_read (wF which) (wG which) hpr
    have htx := sc_text (scanS_ok hsk).2.2
    have htl := (scanS_good hsk).2
    have hwl := writtenT_len (wF which) (wG which) 0 toks (fun x hx => (htx x hx).1)
    have hsc := HP.out.2
    rw [hsk] at hsc
    have HQ := Lib.hid (And.intro hPr (And.intro hLr (And.intro hrd (And.intro htx (And.intro hsc hln)))))
    clear hPr hLr hrd htx hsc hPg hPB HP hpr hsk hln
    unfold plA
    go_wp2_with fail
    have hal := (Fr.refl No w2).alloc (.cells #[.int .i64 0, .int .i64 0, .int .i64 0, .int .i64 0] 26 (0, 0))
    refine (HQ.out.2.2.2.2.1 _ (hT2.no hal)).mono ?_
    rintro e w3 ⟨a3, c3, rfl, ho3, hf3⟩
    have hg3 := hal.callNo hf3
    have hT3 := hT2.no hg3
    simp only [Res.toks, Res.code, Res.pl] at ho3 ⊢
    clear hal hf3 hT2
    unfold plA
    go_wp2_with fail
    have hal := (Fr.refl No w3).alloc (.cells #[.int .i64 zeroPl.b, .int .i64 zeroPl.g, .int .i64 zeroPl.l, .int .i64 zeroPl.c] 26 (0, 0))
    refine (written_calls which hw (own_fr ho3 hal (fun _ _ x => x)) HQ.out.2.2.2.1 (by omega)).mono ?_
    rintro e w4 ⟨rfl, hf4⟩
    have hg4 := (hg3.callNo hal).callNo hf4
    have hT4 := (hT3.no hal).no hf4
    have hrd := HQ.out.2.2.1
    obtain ⟨X, hX⟩ : ∃ X, writtenT (wF which) (wG which) 0 toks = X := ⟨_, rfl⟩
    rw [hX] at hrd hwl ⊢
    have hXs : (⟨X.toArray⟩ : ByteArray).size = X.length := rfl
    have hXl : (⟨X.toArray⟩ : ByteArray).data.toList = X := rfl
    have hp := fun (W : World) (hT : Tb W) => parse_calls (w := W) ⟨X.toArray⟩ (by rw [hXs]; unfold maxLen; omega) hT
    rw [hXl] at hp
    obtain ⟨S, hS⟩ : ∃ S : ByteArray, (⟨X.toArray⟩ : ByteArray) = S := ⟨_, rfl⟩
    rw [hS] at hp hXs ⊢
    have HR := Lib.hid (And.intro hp hrd)
    clear hp hrd hX hXl hS ho3 hal hf4 hg3 hT3 hw
    go_wp2_with fail
    refine (HR.out.1 _ hT4).mono ?_
    rintro e w5 ⟨hf5, hm5⟩
    have hg5 := hg4.callNo hf5
    clear hg4 hT4 hf5
    by_cases hlen : X.length ≤ 4096
    · obtain ⟨g', h1, h2, h3⟩ := HR.out.2 hlen
      rw [h1] at hm5
      obtain ⟨P', rfl, _, hPg'⟩ := hm5
      have hd1 : decide ((4096 : Int) < (S.size : Int)) = false := by rw [decide_eq_false_iff_not]; omega
      have hPr' := fun (W : World) (f : Fr No w5 W) => Print_read h1 (hPg'.fr f)
      have hLr' := fun (W : World) (f : Fr No w5 W) => Lines_read h1 (hPg'.fr f)
      rw [h2] at hPr'
      have hln' := lnS_len h1
      obtain ⟨T, hTT⟩ : ∃ T : ByteArray, (⟨(pgS g).toArray⟩ : ByteArray) = T := ⟨_, rfl⟩
      rw [hTT] at hPr'
      have hPr := HQ.out.1
      rw [hTT] at hPr
      have HS := Lib.hid (And.intro hPr' (And.intro hLr' (And.intro hPr (And.intro h3 hln'))))
      clear hPr' hLr' hPr h1 h2 h3 hPg' hTT hln'
      have htt : (T == T) = true := by have := ba_bne T; unfold bne at this; simpa using this
      unfold plA
      go_wp2_with fail
      have hal := (Fr.refl No w5).alloc (.cells #[.int .i64 zeroPl.b, .int .i64 zeroPl.g, .int .i64 zeroPl.l, .int .i64 zeroPl.c] 26 (0, 0))
      refine (HS.out.1 _ hal).mono ?_
      rintro e w6 ⟨rfl, hf6⟩
      have hk6 := hal.callNo hf6
      have hg6 := hg5.callNo hk6
      clear hal hf6
      go_wp2_with fail
      refine (HS.out.2.2.1 _ hg6).mono ?_
      rintro e w7 ⟨rfl, hf7⟩
      have hk7 := hk6.callNo hf7
      have hg7 := hg6.callNo hf7
      clear hk6 hg6 hf7
      go_wp2_with fail
      refine (HS.out.2.1 _ hk7).mono ?_
      rintro e w8 ⟨v8, rfl, o8, hf8⟩
      have hg8 := hg7.callNo hf8
      obtain ⟨a8, c8, rfl⟩ := own_form o8
      clear hk7 hg7 hf8
      go_wp2_with fail
      refine (HQ.out.2.1 _ hg8).mono ?_
      rintro e w9 ⟨v9, rfl, o9, hf9⟩
      have hg9 := hg8.callNo hf9
      have o10 := own_fr o8 hf9 (fun _ _ x => x)
      obtain ⟨a9, c9, rfl⟩ := own_form o9
      clear hg8 o8 hf9
      go_wp2_with fail
      refine (sameLines_calls o10 o9 HS.out.2.2.2.2 HS.out.2.2.2.1).mono ?_
      rintro e w10 ⟨rfl, hf10⟩
      have hF := hF2.callNo (hg9.callNo hf10)
      clear hg9 hf10 o9 o10
      go_wp2_with fail
      go_ret
      exact ⟨rfl, hF⟩
    · have hd1 : decide ((4096 : Int) < (S.size : Int)) = true := by rw [decide_eq_true_iff]; omega
      have hF := hF2.callNo hg5
      clear HR HQ
      cases hq : parseS X with
      | error ep =>
        rw [hq] at hm5
        obtain ⟨c, p⟩ := ep
        simp only at hm5
        subst hm5
        clear hq
        unfold plA
        go_wp2_with fail
        go_ret
        exact ⟨rfl, hF.alloc _⟩
      | ok g' =>
        rw [hq] at hm5
        obtain ⟨P', rfl, _, _⟩ := hm5
        clear hq
        unfold plA
        go_wp2_with fail
        go_ret
        exact ⟨rfl, hF.alloc _⟩
end Go.Proofs.YtjmjdmmojgmcdaaDoor
