/- What is wrong behind a program that is right: the text's scan and the places. -/
import Derived.Test.YtjmjdmmojgmcdaaDoorPB
namespace Go.Proofs.YtjmjdmmojgmcdaaDoor
open Go
set_option linter.unusedVariables false
set_option linter.unusedSimpArgs false
set_option exponentiation.threshold 5000

/-! places -/
theorem along_flat : ∀ (C : List Nat) (p : Pl), (∀ c ∈ C, c ≠ 10) → (along p C).l = p.l ∧ (along p C).c = p.c + C.length
  | [], p, h => ⟨rfl, rfl⟩
  | c :: r, p, h => by
    have hc := h c (by simp)
    obtain ⟨h1, h2⟩ := along_flat r (behind p c) (fun d hd => h d (by simp [hd]))
    rw [along_cons, h1, h2]
    refine ⟨?_, ?_⟩
    · show (if c = 10 then p.l + 1 else p.l) = p.l
      rw [if_neg hc]
    · show (if c = 10 then 1 else p.c + 1) + r.length = p.c + (r.length + 1)
      rw [if_neg hc]
      omega
theorem along_lines : ∀ (C : List Nat) (p : Pl), (along p C).l = p.l + C.count 10
  | [], p => rfl
  | c :: r, p => by
    rw [along_cons, along_lines r, List.count_cons]
    by_cases hc : c = 10
    · subst hc; simp [behind]; omega
    · simp [behind, hc]
theorem enc_nl {c : Nat} (hok : okc c = true) : (enc c).count 10 = if c = 10 then 1 else 0 := by
  have hb := okc_iff.1 hok
  unfold enc
  by_cases h1 : c < 128
  · rw [if_pos h1]
    by_cases hc : c = 10
    · subst hc; rfl
    · rw [if_neg hc, List.count_eq_zero]
      simp only [List.mem_singleton]
      intro h
      have := congrArg UInt8.toNat h
      simp at this
      omega
  · rw [if_neg h1, if_neg (show ¬ c = 10 by omega), List.count_eq_zero]
    intro h
    have key : ∀ n : Nat, (10 : UInt8) = UInt8.ofNat n → n % 256 = 10 := fun n h => by
      have := congrArg UInt8.toNat h
      simp at this
      omega
    split at h
    · simp only [List.mem_cons, List.not_mem_nil, or_false] at h
      rcases h with h | h <;> have := key _ h <;> omega
    · split at h
      · simp only [List.mem_cons, List.not_mem_nil, or_false] at h
        rcases h with h | h | h <;> have := key _ h <;> omega
      · simp only [List.mem_cons, List.not_mem_nil, or_false] at h
        rcases h with h | h | h | h <;> have := key _ h <;> omega
theorem flat_nl : ∀ (C : List Nat), (∀ c ∈ C, okc c = true) → (C.flatMap enc).count 10 = C.count 10
  | [], _ => rfl
  | c :: r, h => by
    rw [List.flatMap_cons, List.count_append, flat_nl r (fun d hd => h d (by simp [hd])), enc_nl (h c (by simp)), List.count_cons]
    by_cases hc : c = 10
    · subst hc; simp; omega
    · simp [hc]
theorem last_nl {C : List Nat} {s : List UInt8} (hok : ∀ c ∈ C, okc c = true) (h : C.flatMap enc = s ++ [10]) : ∃ C', C = C' ++ [10] := by
  rcases List.eq_nil_or_concat C with rfl | ⟨C', c, rfl⟩
  · simp at h
  · refine ⟨C', ?_⟩
    have h1 : C'.flatMap enc ++ enc c = s ++ [10] := by simpa using h
    have h2 : (enc c).getLast? = some 10 := by
      have h3 := congrArg List.getLast? h1
      rw [List.getLast?_append, List.getLast?_append] at h3
      have hp := enc_pos c
      cases hl : (enc c).getLast? with
      | none => rw [List.getLast?_eq_none_iff] at hl; rw [hl] at hp; simp at hp
      | some b => rw [hl] at h3; simpa using h3
    have h4 : (10 : UInt8) ∈ enc c := List.mem_of_getLast? h2
    have h5 := enc_nl (hok c (by simp))
    by_cases hc : c = 10
    · subst hc; simp
    · rw [if_neg hc, List.count_eq_zero] at h5
      exact absurd h4 h5
theorem prSm_end (ah : List UInt8) (s : Sm) : ∃ t, prSm ah s = t ++ [10] := by
  rw [prSm_eq]
  split
  · exact ⟨ah ++ hdS s ++ [59], by simp⟩
  · exact ⟨ah ++ hdS s ++ (prRows ah (wordOf s) 0 (blksOf s) ++ (ah ++ [125])), by simp⟩
theorem prSms_end (ah : List UInt8) : ∀ l : Sms, prSms ah l = [] ∨ ∃ t, prSms ah l = t ++ [10]
  | .nil => Or.inl rfl
  | .cons s r => by
    simp only [prSms]
    rcases prSms_end ah r with h | ⟨t, h⟩
    · obtain ⟨t, e⟩ := prSm_end ah s
      exact Or.inr ⟨t, by rw [h, List.append_nil, e]⟩
    · exact Or.inr ⟨prSm ah s ++ t, by rw [h, List.append_assoc]⟩
theorem pgS_end (g : Pg) : ∃ t, pgS g = t ++ [10] := by
  unfold pgS
  rcases prSms_end [] g.body with h | ⟨t, h⟩
  · exact ⟨dcS g.begins ++ [59], by rw [h]; simp⟩
  · exact ⟨dcS g.begins ++ [59, 10] ++ t, by rw [h]; simp⟩
/-- a place behind a printed program -/
theorem place_behind {g : Pg} {CH CD : List Nat} {sD : List UInt8} (hH : CH.flatMap enc = pgS g) (hok : ∀ c ∈ CH, okc c = true) (hD : CD.flatMap enc = sD) (hn : ∀ c ∈ CD, c ≠ 10) :
    (along start (CH ++ CD)).b = (pgS g).length + sD.length ∧ (along start (CH ++ CD)).l = 1 + (pgS g).count 10 ∧ (along start (CH ++ CD)).c = CD.length + 1 := by
  obtain ⟨t, ht⟩ := pgS_end g
  obtain ⟨C', hC⟩ := last_nl hok (hH.trans ht)
  rw [along_append]
  obtain ⟨h1, h2⟩ := along_flat CD (along start CH) hn
  have h3 : (along start CH).c = 1 := by
    rw [hC, along_append, along_cons, along_nil]
    rfl
  have h4 : (along start CH).l = 1 + (pgS g).count 10 := by rw [along_lines, ← hH, flat_nl CH hok]; rfl
  refine ⟨?_, h1.trans h4, by rw [h2, h3]; omega⟩
  rw [along_b, along_b, hH, hD]
  show 0 + _ + _ = _
  omega

/-! the text behind the program -/
/-- sD is read as lD, and behind it stands a token, whatever comes then -/
def TxE (sD sE : List UInt8) (lD : List Kt) (k : Int) (x : List UInt8) : Prop := ∃ CD CE : List Nat, CD.flatMap enc = sD ∧ CE.flatMap enc = sE ∧ (∀ c ∈ CD, okc c = true) ∧ (∀ c ∈ CE, okc c = true) ∧
  ∀ pre : List Nat, ∃ tD t : List Tok, tD.map Tok.kt = lD ∧ (∀ y ∈ tD, y.at_.b < (along start (pre ++ CD)).b) ∧ Outs pre (CD ++ CE) (.ok (tD ++ ⟨k, x, along start (pre ++ CD)⟩ :: t))
theorem txE_end {sD : List UInt8} {lD : List Kt} (h : TxW sD lD) : TxE sD [] lD 0 [] := by
  obtain ⟨CD, h1, h2, h3⟩ := h
  refine ⟨CD, [], h1, rfl, h2, by simp, fun pre => ?_⟩
  obtain ⟨t, h4, h5, h6⟩ := h3 pre [] _ (by intro z hz; simp at hz) (outs_end _)
  exact ⟨t, [], h4, h5, h6⟩
theorem txE_of {sD sZ : List UInt8} {lD lZ : List Kt} {k : Int} {x : List UInt8} {X : List Nat} (hX : ∃ c r, X = c :: r ∧ tokHead c) (hx : X.flatMap enc = x) (hok : ∀ c ∈ X, okc c = true) (hD : TxS sD lD ∨ (TxW sD lD ∧ ∃ z r, X = z :: r ∧ part z = false)) (hZ : ∃ C : List Nat, C.flatMap enc = sZ ∧ (∀ c ∈ C, okc c = true) ∧ RsC C lZ ∧ tk (X ++ C) = .ok k x X.length) : TxE sD (x ++ sZ) lD k x := by
  obtain ⟨CZ, z1, z2, z3, z4⟩ := hZ
  have key : ∀ pre, ∃ t, Outs pre (X ++ CZ) (.ok (⟨k, x, along start pre⟩ :: t)) := by
    intro pre
    obtain ⟨t, _, _, h⟩ := z3 (pre ++ X) [] _ (outs_end _)
    rw [List.append_nil] at h
    exact ⟨t ++ [_], outs_step hX z4 h⟩
  rcases hD with ⟨CD, h1, h2, h3⟩ | ⟨⟨CD, h1, h2, h3⟩, hz⟩
  · refine ⟨CD, X ++ CZ, h1, by rw [List.flatMap_append, hx, z1], h2, okc_app hok z2, fun pre => ?_⟩
    obtain ⟨t, ht⟩ := key (pre ++ CD)
    obtain ⟨tD, h4, h5, h6⟩ := h3 pre _ _ ht
    exact ⟨tD, t, h4, h5, h6⟩
  · refine ⟨CD, X ++ CZ, h1, by rw [List.flatMap_append, hx, z1], h2, okc_app hok z2, fun pre => ?_⟩
    obtain ⟨t, ht⟩ := key (pre ++ CD)
    have he : Ends (X ++ CZ) := by
      obtain ⟨z, r, rfl, hz⟩ := hz
      intro y hy
      simp at hy
      subst hy
      exact hz
    obtain ⟨tD, h4, h5, h6⟩ := h3 pre _ _ he ht
    exact ⟨tD, t, h4, h5, h6⟩
theorem txE_sign {sD sZ : List UInt8} {lD lZ : List Kt} {x : List UInt8} (hx : x ∈ signTexts) (hD : TxW sD lD) (hZ : TxS sZ lZ) : TxE sD (x ++ sZ) lD 3 x := by
  have hp := piece_sign hx
  obtain ⟨CZ, z1, z2, z3⟩ := hZ
  obtain ⟨_, _, _, _, hh⟩ := tx_sign hx
  have hz : ∃ z r, x.map UInt8.toNat = z :: r ∧ part z = false := by
    simp only [signTexts, List.mem_cons, List.not_mem_nil, or_false] at hx
    rcases hx with rfl | rfl | rfl | rfl | rfl | rfl | rfl | rfl | rfl | rfl | rfl | rfl | rfl | rfl | rfl | rfl
    all_goals exact ⟨_, _, rfl, by decide⟩
  exact txE_of hp.1.head hp.2 hp.1.ok (Or.inr ⟨hD, hz⟩) ⟨CZ, z1, z2, z3, sign_tk hx CZ⟩
theorem txE_name {sD sZ : List UInt8} {lD lZ : List Kt} {x : List UInt8} (hx : NmT x) (hD : TxS sD lD) (hZ : TxH sZ lZ) : TxE sD (x ++ sZ) lD 1 x := by
  obtain ⟨X, hp, he⟩ := hx
  obtain ⟨CZ, z1, z2, z3, z, r, rfl, z4⟩ := hZ
  exact txE_of hp.head he hp.ok (Or.inl hD) ⟨z :: r, z1, z2, z3, hp.tk _ (fun y hy => by simp at hy; subst hy; exact z4)⟩
theorem mpR_all {N : Nat} {t : List Tok} (h : ∀ y ∈ t, y.at_.b < N) : mpR N t = kT (t.map Tok.kt) := by
  unfold mpR kT
  rw [List.map_map]
  apply List.map_congr_left
  intro y hy
  unfold mpP cutP
  rw [if_pos (h y hy)]
  rfl
theorem bad_law {s : List UInt8} {g : Pg} (hp : parseS s = .ok g) {sD sE : List UInt8} {lD : List Kt} {k : Int} {x : List UInt8} {c : Int} (hE : TxE sD sE lD k x)
    (hbad : ∀ (P : Pl) (t : List Tok), RowBad (g.begins.map Bg.name) lD ⟨k, x, P⟩ t c) (hst : ∀ (P : Pl) (t : List Tok), stops (kT lD ++ ⟨k, x, P⟩ :: t)) (hnl : (10 : UInt8) ∉ sD) (hl : (pgS g ++ (sD ++ sE)).length ≤ 4096) :
    ∃ (P : Pl) (CD : List Nat), parseS (pgS g ++ (sD ++ sE)) = .error (c, P) ∧ CD.flatMap enc = sD ∧ (∀ d ∈ CD, okc d = true) ∧ P.b = (pgS g).length + sD.length ∧ P.l = 1 + (pgS g).count 10 ∧ P.c = CD.length + 1 := by
  obtain ⟨hb, mk, hs⟩ := parse_bk hp
  obtain ⟨CH, a1, a2, a3⟩ := tx_pg hb hs
  obtain ⟨CD, CE, b1, b2, b3, b4, b5⟩ := hE
  obtain ⟨tD, t, d1, d2, d3⟩ := b5 CH
  obtain ⟨tH, e1, e2, e3⟩ := a3 [] (CD ++ CE) _ d3
  rw [List.nil_append] at e2
  have hn10 : ∀ d ∈ CD, d ≠ 10 := by
    rintro d hd rfl
    apply hnl
    rw [← b1, List.mem_flatMap]
    exact ⟨10, hd, by decide⟩
  have hpl := place_behind a1 a2 b1 hn10
  obtain ⟨P, hP⟩ : ∃ P, along start (CH ++ CD) = P := ⟨_, rfl⟩
  rw [hP] at d2 d3 e3 hpl
  refine ⟨P, CD, ?_, b1, b3, hpl⟩
  have hsc : scanS (pgS g ++ (sD ++ sE)) = .ok (tH ++ (tD ++ ⟨k, x, P⟩ :: t)) := by
    refine outs_scan (C := CH ++ (CD ++ CE)) (by rw [List.flatMap_append, List.flatMap_append, a1, b1, b2]) (okc_app a2 (okc_app b3 b4)) hl ?_
    exact e3
  have hH : ∀ y ∈ tH, y.at_.b < P.b := by
    intro y hy
    have h1 := e2 y hy
    have h2 := along_le (along start CH) CD
    rw [← along_append, hP] at h2
    omega
  have hm : mpR P.b (tH ++ (tD ++ ⟨k, x, P⟩ :: t)) = kT (tkP g ++ lD) ++ ⟨k, x, P⟩ :: mpR P.b t := by
    have hcut : cutP P.b P = P := by unfold cutP; rw [if_neg (by omega)]
    have e : mpR P.b (tH ++ (tD ++ ⟨k, x, P⟩ :: t)) = mpR P.b tH ++ (mpR P.b tD ++ ⟨k, x, cutP P.b P⟩ :: mpR P.b t) := by simp [mpR, mpP]
    rw [e, hcut, mpR_all hH, mpR_all d2, e1, d1, kT_app, List.append_assoc]
  have hlen : (tH ++ (tD ++ (⟨k, x, P⟩ : Tok) :: t)).length = (tkP g).length + lD.length + 1 + t.length := by
    have h1 := congrArg List.length e1
    have h2 := congrArg List.length d1
    simp only [List.length_map] at h1 h2
    simp only [List.length_append, List.length_cons]
    omega
  unfold parseS
  rw [hsc]
  simp only
  have h3 := prog_bad (n := 8 * (tH ++ (tD ++ (⟨k, x, P⟩ : Tok) :: t)).length + 10) hb hs (hst P (mpR P.b t)) (hbad P (mpR P.b t)) (by rw [hlen]; omega)
  rw [← hm, prog_noP] at h3
  revert h3
  rcases progS (8 * (tH ++ (tD ++ (⟨k, x, P⟩ : Tok) :: t)).length + 10) (tH ++ (tD ++ (⟨k, x, P⟩ : Tok) :: t)) with ⟨c', P'⟩ | g'
  · intro h
    simp only [mpG, Except.error.injEq, Prod.mk.injEq] at h
    obtain ⟨rfl, h⟩ := h
    unfold cutP at h
    split at h
    · rename_i hlt
      rw [← h] at hlt
      have h0 : start.b = 0 := rfl
      have hpos := hpl.1
      rw [← h, h0] at hpos
      obtain ⟨u, hu⟩ := pgS_end g
      rw [hu] at hpos
      simp at hpos
      omega
    · rw [h]
  · intro h; simp only [mpG] at h; cases h
/-- a sign that is none -/
theorem bad_sign {s : List UInt8} {g : Pg} (hp : parseS s = .ok g) {sD : List UInt8} {lD : List Kt} (hD : TxS sD lD) (hnl : (10 : UInt8) ∉ sD) (hl : (pgS g ++ (sD ++ [36])).length ≤ 4096) :
    ∃ (P : Pl) (CD : List Nat), parseS (pgS g ++ (sD ++ [36])) = .error (41, P) ∧ CD.flatMap enc = sD ∧ (∀ d ∈ CD, okc d = true) ∧ P.b = (pgS g).length + sD.length ∧ P.l = 1 + (pgS g).count 10 ∧ P.c = CD.length + 1 := by
  obtain ⟨hb, mk, hs⟩ := parse_bk hp
  obtain ⟨CH, a1, a2, a3⟩ := tx_pg hb hs
  obtain ⟨CD, b1, b2, b3⟩ := hD
  have hn10 : ∀ d ∈ CD, d ≠ 10 := by
    rintro d hd rfl
    apply hnl
    rw [← b1, List.mem_flatMap]
    exact ⟨10, hd, by decide⟩
  have hpl := place_behind a1 a2 b1 hn10
  have h0 : Outs (CH ++ CD) [36] (.bad 41 (along start (CH ++ CD))) := outs_bad (by unfold tokHead; decide) (tkE (by decide) (by decide) (by decide))
  obtain ⟨tD, _, _, d3⟩ := b3 CH [36] _ h0
  obtain ⟨tH, _, _, e3⟩ := a3 [] (CD ++ [36]) _ d3
  refine ⟨along start (CH ++ CD), CD, ?_, b1, b2, hpl⟩
  have hsc : scanS (pgS g ++ (sD ++ [36])) = .bad 41 (along start (CH ++ CD)) := by
    refine outs_scan (C := CH ++ (CD ++ [36])) (by rw [List.flatMap_append, List.flatMap_append, a1, b1]; rfl) (okc_app a2 (okc_app b2 (by decide))) hl ?_
    exact e3
  unfold parseS
  rw [hsc]
end Go.Proofs.YtjmjdmmojgmcdaaDoor
