/- Plain laws over scan: what GlyphSigns and GlyphAgain say of Scan's answers. No program's walk. -/
import Derived.Test.YtklhfbgmadblcaaDoorP3
namespace Go.Proofs.YtklhfbgmadblcaaDoor
open Go
set_option linter.unusedVariables false
set_option linter.unusedSimpArgs false

theorem scanS_ok {l : List UInt8} {toks : List Tok} (h : scanS l = .ok toks) : l.length ≤ 4096 ∧ tlOf l = [] ∧ SC [] (csOf l) toks := by
  unfold scanS at h
  split at h
  · cases h
  · rename_i hl
    unfold scanOf at h
    obtain ⟨h1, h2⟩ := sc_of_scan _ _ _ _ _ (by omega) h
    exact ⟨by omega, by simpa using h1, h2⟩
theorem scanS_mk {l : List UInt8} {cs : List Nat} {toks : List Tok} (hl : l.length ≤ 4096) (he : l = cs.flatMap enc) (hok : ∀ c ∈ cs, okc c = true) (h : SC [] cs toks) : scanS l = .ok toks := by
  have T : Txt l cs [] := ⟨by simp [he], hok, rfl⟩
  rw [scanS_eq T hl]
  exact scan_of_sc h _ (by omega)

/-- with other signs -/
def signsText : Nat → List Tok → List UInt8
  | _, [] => []
  | i, x :: r => alt (i % 2 == 1) x.kind x.text ++ [194, 160] ++ signsText (i + 1) r
def joinT : List Tok → List UInt8
  | [] => []
  | [x] => x.text
  | x :: y :: r => x.text ++ 32 :: joinT (y :: r)

theorem drop_ok {cs : List Nat} (h : ∀ c ∈ cs, okc c = true) {c : Nat} {r : List Nat} (hs : skipC false cs = c :: r) : ∀ d ∈ c :: r, okc d = true := by
  intro d hd
  obtain ⟨m, hm⟩ := skipC_suffix cs false
  exact h d (by rw [hm, hs]; exact List.mem_append_right _ hd)
theorem sc_ne {pre cs : List Nat} {l : List Tok} (h : SC pre cs l) : l ≠ [] := by cases h <;> simp

theorem sc_alts {pre cs : List Nat} {l : List Tok} (h : SC pre cs l) : (∀ c ∈ cs, okc c = true) → ∀ i, ∃ L : List ((Int × List UInt8) × List Nat), (∀ q ∈ L, Piece q.1.1 q.1.2 q.2) ∧ l.map Tok.kt = L.map (·.1) ++ [(0, [])] ∧ signsText i l = (L.flatMap fun q => q.2 ++ [160]).flatMap enc ++ [194, 160] := by
  induction h with
  | done h => exact fun hok i => ⟨[], by simp, rfl, by simp [signsText, alt]⟩
  | @step pre cs c r k x m l h ht hl ih =>
    intro hok i
    have hok2 := drop_ok hok h
    obtain ⟨L, h1, h2, h3⟩ := ih (fun d hd => hok2 d (List.mem_of_mem_drop hd)) (i + 1)
    obtain ⟨X, hX, hx⟩ := tk_alt ht hok2 (i % 2 == 1)
    refine ⟨((k, x), X) :: L, ?_, ?_, ?_⟩
    · intro q hq
      rcases List.mem_cons.1 hq with rfl | hq
      · exact hX
      · exact h1 q hq
    · simp [Tok.kt, h2]
    · have e : enc 160 = [194, 160] := by decide
      simp only [signsText, List.flatMap_cons, List.flatMap_append, List.flatMap_nil, List.append_nil, hx, h3, e]
      simp
theorem sc_joins {pre cs : List Nat} {l : List Tok} (h : SC pre cs l) : (∀ c ∈ cs, okc c = true) → ∃ L : List ((Int × List UInt8) × List Nat), (∀ q ∈ L, Piece q.1.1 q.1.2 q.2) ∧ l.map Tok.kt = L.map (·.1) ++ [(0, [])] ∧ joinT l = (L.flatMap fun q => q.2 ++ [32]).flatMap enc := by
  induction h with
  | done h => exact fun hok => ⟨[], by simp, rfl, by simp [joinT]⟩
  | @step pre cs c r k x m l h ht hl ih =>
    intro hok
    have hok2 := drop_ok hok h
    obtain ⟨L, h1, h2, h3⟩ := ih (fun d hd => hok2 d (List.mem_of_mem_drop hd))
    obtain ⟨X, hX, hx⟩ := tk_again ht hok2
    refine ⟨((k, x), X) :: L, ?_, ?_, ?_⟩
    · intro q hq
      rcases List.mem_cons.1 hq with rfl | hq
      · exact hX
      · exact h1 q hq
    · simp [Tok.kt, h2]
    · have e : enc 32 = [32] := by decide
      obtain ⟨y, r2, hy⟩ : ∃ y r2, l = y :: r2 := by
        cases l with
        | nil => exact absurd rfl (sc_ne hl)
        | cons y r2 => exact ⟨y, r2, rfl⟩
      rw [hy] at h3 ⊢
      simp only [joinT, List.flatMap_cons, List.flatMap_append, List.flatMap_nil, List.append_nil, hx, h3, e]
      simp
theorem flat_okc (L : List ((Int × List UInt8) × List Nat)) (h : ∀ q ∈ L, Piece q.1.1 q.1.2 q.2) {b : Nat} (hb : okc b = true) : ∀ c ∈ (L.flatMap fun q => q.2 ++ [b]), okc c = true := by
  intro c hc
  rw [List.mem_flatMap] at hc
  obtain ⟨q, hq, hc⟩ := hc
  rcases List.mem_append.1 hc with hc | hc
  · exact (h q hq).ok c hc
  · simp at hc; subst hc; exact hb

/-- the law of GlyphSigns -/
theorem signs_law {l : List UInt8} {toks : List Tok} (h : scanS l = .ok toks) (hs : (signsText 0 toks).length ≤ 4096) : ∃ l', scanS (signsText 0 toks) = .ok l' ∧ l'.map Tok.kt = toks.map Tok.kt := by
  obtain ⟨_, h2, h3⟩ := scanS_ok h
  obtain ⟨L, q1, q2, q3⟩ := sc_alts h3 (txt_of l).ok 0
  have hb : cls (160 : Nat) = 1 := by decide
  obtain ⟨l', r1, r2⟩ := sc_pieces (b := 160) hb L q1 [160] (by decide) []
  refine ⟨l', scanS_mk hs ?_ ?_ r1, by rw [r2, q2]⟩
  · rw [q3, List.flatMap_append]
    rfl
  · intro c hc
    rcases List.mem_append.1 hc with hc | hc
    · exact flat_okc L q1 (by decide) c hc
    · simp at hc; subst hc; decide
/-- the first law of GlyphAgain -/
theorem joins_law {l : List UInt8} {toks : List Tok} (h : scanS l = .ok toks) (hs : (joinT toks).length ≤ 4096) : ∃ l', scanS (joinT toks) = .ok l' ∧ l'.map Tok.kt = toks.map Tok.kt := by
  obtain ⟨_, h2, h3⟩ := scanS_ok h
  obtain ⟨L, q1, q2, q3⟩ := sc_joins h3 (txt_of l).ok
  have hb : cls (32 : Nat) = 1 := by decide
  obtain ⟨l', r1, r2⟩ := sc_pieces (b := 32) hb L q1 [] rfl []
  rw [List.append_nil] at r1
  exact ⟨l', scanS_mk hs q3 (flat_okc L q1 (by decide)) r1, by rw [r2, q2]⟩

/-! what is put ahead of a token -/
def Ins (I : List Nat) : Prop := (∀ cm Z, skipC cm (I ++ Z) = skipC false Z) ∧ ∀ Z z, (I ++ Z).head? = some z → part z = false
theorem skipped_past {cs : List Nat} {c : Nat} {r : List Nat} (h : skipC false cs = c :: r) : ∃ cm, ∀ Z, skipC false (skipped cs ++ Z) = skipC cm Z := by
  have h1 := skipped_append cs
  have h2 : skipC false (skipped cs ++ (c :: r)) = c :: r := by
    rw [← h, h1]
  exact skipC_past _ _ false h2 (fun c' r' e => by rw [e]; exact skipC_head (by cases e; exact skipC_tokHead cs false _ _ h) _)
theorem skipped_head {cs : List Nat} {c : Nat} {r : List Nat} (h : skipC false cs = c :: r) (Z : List Nat) : skipC false (skipped cs ++ c :: Z) = c :: Z := by
  have h1 := skipped_append cs
  rw [h] at h1
  have := skipC_app (skipped cs ++ [c]) false c [] Z ?_
  · simpa using this
  · -- c ends what is skipped
    obtain ⟨cm, hcm⟩ := skipped_past h
    have e1 := hcm (c :: r)
    rw [h1, h] at e1
    rw [hcm]
    have hc := skipC_tokHead cs false c r h
    cases cm with
    | false => exact skipC_head hc []
    | true =>
      exfalso
      simp only [skipC, if_neg hc.2.2, if_neg hc.1, if_true] at e1
      have := skipC_le r true
      have := congrArg List.length e1
      simp at this; omega
theorem sc_insert {I : List Nat} (hI : Ins I) {pre cs : List Nat} {l : List Tok} (h : SC pre cs l) : ∀ i (hi : i < l.length), ∃ A B, cs = A ++ B ∧ l[i].at_ = along start (pre ++ A) ∧ ∀ pre', ∃ l', SC pre' (A ++ I ++ B) l' ∧ l'.map Tok.kt = l.map Tok.kt := by
  induction h with
  | @done pre cs h =>
    intro i hi
    obtain rfl : i = 0 := by simpa using hi
    refine ⟨cs, [], by simp, rfl, fun pre' => ⟨_, .done ?_, rfl⟩⟩
    obtain ⟨cm, hcm⟩ := skipC_past cs [] false (by simpa using h) (fun c r e => by cases e)
    rw [List.append_assoc, hcm, hI.1]
    rfl
  | @step pre cs c r k x m l h ht hl ih =>
    intro i hi
    cases i with
    | zero =>
      have h1 := skipped_append cs
      rw [h] at h1
      refine ⟨skipped cs, c :: r, h1.symm, rfl, fun pre' => ?_⟩
      have hs : skipC false (skipped cs ++ I ++ (c :: r)) = skipC false cs := by
        obtain ⟨cm, hcm⟩ := skipped_past h
        rw [List.append_assoc, hcm, hI.1, h]
        exact skipC_head (skipC_tokHead cs false c r h) r
      exact sc_skip (.step h ht hl) hs pre'
    | succ i =>
      obtain ⟨A, B, h1, h2, h3⟩ := ih i (by simpa using hi)
      have h0 := skipped_append cs
      rw [h] at h0
      obtain ⟨m1, m2, _⟩ := tk_ok ht
      obtain ⟨m, rfl⟩ : ∃ j, m = j + 1 := ⟨m - 1, by omega⟩
      refine ⟨skipped cs ++ (c :: r).take (m + 1) ++ A, B, ?_, ?_, fun pre' => ?_⟩
      · rw [List.append_assoc, ← h1, List.append_assoc, List.take_append_drop]; exact h0.symm
      · simp only [List.getElem_cons_succ]
        rw [h2]
        simp [List.append_assoc]
      · have e : skipped cs ++ (c :: r).take (m + 1) ++ A ++ I ++ B = skipped cs ++ (c :: (r.take m ++ (A ++ I ++ B))) := by simp
        rw [e]
        have hs := skipped_head h (r.take m ++ (A ++ I ++ B))
        have hz : ∀ z, (A ++ I ++ B).head? = some z → good k z := by
          intro z hz
          cases A with
          | nil => exact good_of (hI.2 B z (by simpa using hz)) k
          | cons a A =>
            simp at hz; subst hz
            exact tk_rest ht a (by rw [h1]; rfl)
        have ht2 := tk_cut ht (A ++ I ++ B) hz
        obtain ⟨l', r1, r2⟩ := h3 (pre' ++ skipped (skipped cs ++ (c :: (r.take m ++ (A ++ I ++ B)))) ++ (c :: (r.take m ++ (A ++ I ++ B))).take (m + 1))
        refine ⟨⟨k, x, along start (pre' ++ skipped (skipped cs ++ (c :: (r.take m ++ (A ++ I ++ B)))))⟩ :: l', .step hs (by simpa using ht2) ?_, by simp [Tok.kt, r2]⟩
        have hd : (c :: (r.take m ++ (A ++ I ++ B))).drop (m + 1) = A ++ I ++ B := by
          simp only [List.drop_succ_cons]
          rw [List.drop_append_of_le_length (by rw [List.length_take]; simp at m2; omega)]
          simp
        rw [hd]
        exact r1
/-- a blank, a comment, a line's end and blanks -/
def insC (com : List Nat) : List Nat := [9, 32, 35] ++ com ++ [10, 32, 12288]
theorem skip_com : ∀ (com : List Nat), (∀ c ∈ com, 32 ≤ c ∧ c < 127) → ∀ Z, skipC true (com ++ Z) = skipC true Z
  | [], h, Z => rfl
  | c :: com, h, Z => by
    have hc := h c (by simp)
    simp only [List.cons_append, skipC]
    rw [if_neg (by omega)]
    split
    · exact skip_com com (fun d hd => h d (by simp [hd])) Z
    · exact skip_com com (fun d hd => h d (by simp [hd])) Z
theorem ins_com {com : List Nat} (h : ∀ c ∈ com, 32 ≤ c ∧ c < 127) : Ins (insC com) := by
  have c9 : cls 9 = 1 := by decide
  have c32 : cls 32 = 1 := by decide
  have c35 : cls 35 = 6 := by decide
  have cW : cls 12288 = 1 := by decide
  refine ⟨fun cm Z => ?_, fun Z z hz => ?_⟩
  · have e : insC com ++ Z = 9 :: 32 :: 35 :: (com ++ (10 :: 32 :: 12288 :: Z)) := by simp [insC]
    rw [e]
    cases cm
    all_goals simp [skipC, c9, c32, c35, cW, skip_com com h]
  · simp [insC] at hz; subst hz; decide
/-- the second law of GlyphAgain -/
theorem insert_law {l : List UInt8} {toks : List Tok} (h : scanS l = .ok toks) {i : Nat} (hi : i < toks.length) {com : List UInt8} (hc : ∀ b ∈ com, 32 ≤ b.toNat ∧ b.toNat < 127) :
    toks[i].at_.b ≤ l.length ∧ ((l.take toks[i].at_.b ++ ([9, 32, 35] ++ com ++ [10, 32, 227, 128, 128]) ++ l.drop toks[i].at_.b).length ≤ 4096 →
      ∃ l', scanS (l.take toks[i].at_.b ++ ([9, 32, 35] ++ com ++ [10, 32, 227, 128, 128]) ++ l.drop toks[i].at_.b) = .ok l' ∧ l'.map Tok.kt = toks.map Tok.kt) := by
  obtain ⟨_, h2, h3⟩ := scanS_ok h
  have hcc : ∀ c ∈ com.map UInt8.toNat, 32 ≤ c ∧ c < 127 := by
    intro c hc'; rw [List.mem_map] at hc'; obtain ⟨b, hb, rfl⟩ := hc'; exact hc b hb
  obtain ⟨A, B, e1, e2, e3⟩ := sc_insert (ins_com hcc) h3 i hi
  have T := txt_of l
  have hl : l = A.flatMap enc ++ B.flatMap enc := by
    have := T.eq
    rw [h2, List.append_nil, e1, List.flatMap_append] at this
    exact this
  have hb : toks[i].at_.b = (A.flatMap enc).length := by rw [e2, along_b]; simp [start]
  have ht : l.take toks[i].at_.b = A.flatMap enc := by rw [hb, hl, List.take_left]
  have hd : l.drop toks[i].at_.b = B.flatMap enc := by rw [hb, hl, List.drop_left]
  have hI : (insC (com.map UInt8.toNat)).flatMap enc = [9, 32, 35] ++ com ++ [10, 32, 227, 128, 128] := by
    have hf := flat_asc com (fun b hb => by have := hc b hb; omega)
    have e9 : enc 9 = [9] := by decide
    have e32 : enc 32 = [32] := by decide
    have e35 : enc 35 = [35] := by decide
    have e10 : enc 10 = [10] := by decide
    have eW : enc 12288 = [227, 128, 128] := by decide
    simp [insC, List.flatMap_append, hf, e9, e32, e35, e10, eW]
  refine ⟨by rw [hb, hl]; simp, fun hlen => ?_⟩
  obtain ⟨l', r1, r2⟩ := e3 []
  refine ⟨l', scanS_mk hlen ?_ ?_ r1, r2⟩
  · rw [ht, hd, ← hI]; simp
  · intro c hc'
    have hok : ∀ d ∈ A ++ B, okc d = true := by rw [← e1]; exact T.ok
    simp only [List.mem_append] at hc' hok
    rcases hc' with (hc' | hc') | hc'
    · exact hok c (Or.inl hc')
    · simp only [insC, List.mem_append] at hc'
      rcases hc' with (hc' | hc') | hc'
      · simp at hc'; exact okc_iff.2 (by omega)
      · have := hcc c hc'; exact okc_iff.2 (by omega)
      · simp at hc'; exact okc_iff.2 (by omega)
    · exact hok c (Or.inr hc')
end Go.Proofs.YtklhfbgmadblcaaDoor
