/- The reference's parser: variable; its tokens against isT. -/
import Derived.Test.YtlklijpjacmgpaaGreatDoorQC
import Derived.Test.YtlklijpjacmgpaaGreatDoorOG
import Derived.BigQuiet
namespace Go.Proofs.YtlklijpjacmgpaaGreatDoor
open Go.RowKit
set_option linter.unusedVariables false
set_option linter.unusedSimpArgs false
attribute [local go_sem ↓] Go.wp_at_zero Go.wp_at_succ

/-- tokens that the scanner makes -/
def TkOk (toks : List Tok) : Prop := ∀ t ∈ toks, (t.kind = 1 → NmT t.text) ∧ (t.kind = 3 → t.text ∈ signTexts)
theorem tkOk_of {s : List UInt8} {toks : List Tok} (h : scanS s = .ok toks) : TkOk toks := fun t ht => ⟨scan_names h t ht, (sc_text (scanS_ok h).2.2 t ht).2⟩
theorem sign_ne {x : List UInt8} (hx : x ∈ signTexts) {y : List UInt8} (hy : NmT y) : y ≠ x := by
  simp only [signTexts, List.mem_cons, List.not_mem_nil, or_false] at hx
  rcases hx with rfl | rfl | rfl | rfl | rfl | rfl | rfl | rfl | rfl | rfl | rfl | rfl | rfl | rfl | rfl | rfl
  all_goals exact nm_ne hy (by decide) (by decide)
theorem sign_no_word {x : List UInt8} (hx : x ∈ signTexts) : wordS x = false := by
  simp only [signTexts, List.mem_cons, List.not_mem_nil, or_false] at hx
  rcases hx with rfl | rfl | rfl | rfl | rfl | rfl | rfl | rfl | rfl | rfl | rfl | rfl | rfl | rfl | rfl | rfl <;> decide
theorem isR_sign {toks : List Tok} (hk : TkOk toks) {s : PS} (hi : s.i < toks.length) {x : List UInt8} (hx : x ∈ signTexts) : isR x (s.here toks) = isT x (toks.drop s.i) := by
  have hm : s.here toks ∈ toks := List.mem_of_getElem? (here_get hi)
  have h1 := hk _ hm
  unfold isR isT
  rw [sign_no_word hx]
  show _ = decide ((s.here toks).text = x ∧ ((s.here toks).kind = 3 ∨ (s.here toks).kind = 1))
  by_cases h3 : (s.here toks).kind = 3
  · by_cases ht : (s.here toks).text = x <;> simp [h3, ht]
  · by_cases h1k : (s.here toks).kind = 1
    · have := sign_ne hx (h1.1 h1k)
      simp [h1k, this]
    · simp [h3, h1k]
theorem isR_word {toks : List Tok} (hk : TkOk toks) {s : PS} (hi : s.i < toks.length) {x : List UInt8} (hx : wordS x = true) : isR x (s.here toks) = isT x (toks.drop s.i) := by
  have hm : s.here toks ∈ toks := List.mem_of_getElem? (here_get hi)
  have h1 := hk _ hm
  unfold isR isT
  rw [hx]
  show _ = decide ((s.here toks).text = x ∧ ((s.here toks).kind = 3 ∨ (s.here toks).kind = 1))
  by_cases h1k : (s.here toks).kind = 1
  · by_cases ht : (s.here toks).text = x <;> simp [h1k, ht]
  · by_cases h3 : (s.here toks).kind = 3
    · have h4 := sign_no_word (h1.2 h3)
      have : (s.here toks).text ≠ x := fun e => by rw [e, hx] at h4; cases h4
      simp [h3, this]
    · simp [h3, h1k]
theorem drop_pass {toks : List Tok} {s : PS} (hi : s.i < toks.length) (hk : (s.here toks).kind ≠ 0) : toks.drop (s.i + 1) = passT (toks.drop s.i) := by
  have e : toks.drop s.i = toks[s.i] :: toks.drop (s.i + 1) := List.drop_eq_getElem_cons hi
  have hh : s.here toks = toks[s.i] := by unfold PS.here; rw [e]; rfl
  rw [hh] at hk
  rw [e]
  exact (if_neg hk).symm
/-- what 'variable' makes of the parser, and what it answers -/
def PS.var (toks : List Tok) (nm : List (List UInt8)) (s : PS) : PS × Int :=
  if s.err ≠ 0 then (s, 0)
  else if nmR (s.here toks) = false then (s.fail toks 80, 0)
  else if amR nm (s.here toks).text < 0 then (s.fail toks 81, 0)
  else (s.pass, amR nm (s.here toks).text)
theorem amR_le (nm : List (List UInt8)) (x : List UInt8) : -1 ≤ amR nm x ∧ amR nm x ≤ nm.length := by
  unfold amR
  cases h : varS nm x with
  | none => simp only; omega
  | some v =>
    unfold varS at h
    rw [List.findIdx?_eq_some_iff_getElem] at h
    obtain ⟨hv, _⟩ := h
    simp only
    omega
set_option maxRecDepth 100000 in
set_option maxHeartbeats 4000000 in
theorem variable_ref {w0 w : World} {b q : Nat} {Lv Nv Mv Bv Tv : Value} {pl : Pl} {toks : List Tok} {s : PS} {nm : List (List UInt8)} (h : PrM w0 w b q Lv Nv Mv Bv Tv pl toks s) (hn : NmIn w0 Nv nm) (hl : nm.length ≤ 1000) :
    Calls Tryz.prog 80 #[.pointer (some ⟨b, 0, none⟩)] w fun e w' => e = .returned (.int .i64 (s.var toks nm).2) ∧ PrM w0 w' b q Lv Nv Mv Bv Tv pl toks (s.var toks nm).1 := by
  have hle := h.le
  have hlt := h.lt
  have R := Blk.all h.blk
  have Z := Blk.frees h.blk
  have hbl := h.blk.lt
  have H := Lib.hid h
  have hnf := fun (W : World) (f : Fr No w0 W) => among_ref (w := W) (s.here toks).text (hn.fr f) (by omega)
  obtain ⟨aN0, cN0, hNv0, _, _⟩ := id hn
  have hNv : ∃ a c, Nv = .slice a nm.length c := ⟨_, _, hNv0⟩
  clear hNv0
  have hle2 := amR_le nm (s.here toks).text
  have HN := Lib.hid hnf
  clear h hnf hn
  obtain ⟨aN, cN, rfl⟩ := hNv
  by_cases he : s.err = 0
  · have hd : (s.err != 0) = false := by rw [he]; rfl
    go_enter Tryz.func80, Tryz.ntmps80
    go_wp2_with fail
    refine (named_ref H.out).mono ?_
    rintro e w1 ⟨rfl, h1⟩
    obtain ⟨I, hI⟩ : ∃ I, nmR (s.here toks) = I := ⟨_, rfl⟩
    rw [hI]
    have HI := Lib.hid hI
    have H1 := Lib.hid h1
    obtain ⟨g, cL, rfl, hgl, hgb, hgq, ht⟩ := h1.tok
    obtain ⟨t0, t1, t2, t3, t4, t5⟩ := ht
    clear R Z hI
    have R := Blk.all h1.blk
    have Z := Blk.frees h1.blk
    have hbl1 := h1.blk.lt
    have i1 : (0 : Int) ≤ (s.i : Int) := by omega
    have i2 : (s.i : Int) < (toks.length : Int) := by omega
    clear h1
    cases I with
    | false =>
      have hs : s.var toks nm = (s.fail toks 80, 0) := by unfold PS.var; rw [if_neg (by simp [he]), if_pos HI.out]
      go_wp2_with fail
      refine (fail_ref 80 H1.out).mono ?_
      rintro e w2 ⟨rfl, h2⟩
      go_wp2_with fail
      go_ret
      exact ⟨by rw [hs]; rfl, by rw [hs]; exact h2⟩
    | true =>
      obtain ⟨T, hT⟩ : ∃ T, (s.here toks).text = T := ⟨_, rfl⟩
      have HT := Lib.hid hT
      rw [hT] at t1 hle2
      obtain ⟨am, ham⟩ : ∃ am, amR nm T = am := ⟨_, rfl⟩
      rw [ham] at hle2
      have HAM := Lib.hid ham
      clear hT ham
      go_upto_region 6 with (fail)
      go_still_tail 15, (by kernel_rfl)
      change wpList _ _ _ _ _ w1.drew
      have h1d := H1.out.no (Fr.refl No w1).drew
      clear t0 t1 t2 t3 t4 t5 R Z hgl hbl1
      have H1d := Lib.hid h1d
      clear h1d
      generalize w1.drew = w2 at *
      go_wp2_with fail
      have ha := HN.out w2 H1d.out.fr
      rw [HT.out, HAM.out] at ha
      refine ha.mono ?_
      rintro e w3 ⟨rfl, hf3⟩
      have h3 := H1d.out.no hf3
      have H3 := Lib.hid h3
      have R := Blk.all h3.blk
      have Z := Blk.frees h3.blk
      have hbl3 := h3.blk.lt
      clear h3 ha hf3
      by_cases hneg : am < 0
      · have hd3 : decide (am < (0 : Int)) = true := decide_eq_true hneg
        have hs : s.var toks nm = (s.fail toks 81, 0) := by unfold PS.var; rw [if_neg (by simp [he]), if_neg (by rw [HI.out]; simp), if_pos (by rw [HT.out, HAM.out]; exact hneg)]
        go_wp2_with fail
        refine (fail_ref 81 H3.out).mono ?_
        rintro e w4 ⟨rfl, h4⟩
        go_wp2_with fail
        go_ret
        exact ⟨by rw [hs]; rfl, by rw [hs]; exact h4⟩
      · have hd3 : decide (am < (0 : Int)) = false := decide_eq_false hneg
        have hs : s.var toks nm = (s.pass, am) := by unfold PS.var; rw [if_neg (by simp [he]), if_neg (by rw [HI.out]; simp), if_neg (by rw [HT.out, HAM.out]; exact hneg), HT.out, HAM.out]
        have hk1 : (s.here toks).kind ≠ 0 := by
          have := HI.out
          unfold nmR at this
          simp only [Bool.and_eq_true, decide_eq_true_eq] at this
          rw [this.1]; decide
        have hn1 := H3.out.next hk1
        go_wp2_with fail
        go_ret
        have hk := (Fr.refl (· = b) w3).setCell (a := ⟨b, 1, none⟩) (.int .i64 ((s.i : Int) + 1)) (fun _ => rfl)
        exact ⟨by rw [hs]; rfl, by rw [hs]; exact H3.out.set (s' := s.pass) hk (H3.out.blk.setOff 1 (.int .i64 ((s.i : Int) + 1))) rfl hn1⟩
  · have hd : (s.err != 0) = true := by simp [he]
    have hs : s.var toks nm = (s, 0) := by unfold PS.var; rw [if_pos he]
    go_enter Tryz.func80, Tryz.ntmps80
    go_wp2_with fail
    go_ret
    exact ⟨by rw [hs]; rfl, by rw [hs]; exact H.out⟩
end Go.Proofs.YtlklijpjacmgpaaGreatDoor
