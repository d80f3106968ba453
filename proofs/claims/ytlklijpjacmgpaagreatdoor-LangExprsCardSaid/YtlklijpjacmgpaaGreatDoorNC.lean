/- What Parse reads, Print prints: sizes. -/
import Derived.Test.YtlklijpjacmgpaaGreatDoorNB
import Derived.Test.YtlklijpjacmgpaaGreatDoorMD
namespace Go.Proofs.YtlklijpjacmgpaaGreatDoor
open Go
set_option linter.unusedVariables false
set_option linter.unusedSimpArgs false
set_option exponentiation.threshold 5000

theorem decl_gd {nm : List (List UInt8)} {r r1 : List Tok} {g : Bg} (hg : Good r) (h : declareS nm r = .ok (g, r1)) : (dig L32 g.mag).length ≤ 32 ∧ ∀ i, (bgS i g).length + 1200 * r1.length ≤ 1200 * r.length + 1 := by
  have hx := here_len hg
  have hd0 : (dig L32 0).length ≤ 32 := by rw [dig_zero]; simp
  have hi : ∀ i : Nat, (if i = 0 then ([] : List UInt8) else [44]).length ≤ 1 := by intro i; split <;> simp
  have hsg : ∀ (b : Bool) (n : Nat), (decText n).length ≤ 1024 → (sgT b n).length ≤ 1025 := by
    intro b n hn
    unfold sgT
    split
    · simp only [List.length_cons]; omega
    · omega
  unfold declareS at h
  split at h
  · cases h
  rename_i hn
  have hk : (hereT r).kind = 1 := nameS_kind (by simpa using hn)
  have hl := hg.pass_lt (by omega)
  have g1 := hg.pass
  split at h
  · cases h
  split at h
  · cases h
  split at h
  · cases h
  split at h
  · rename_i he
    have l1 := isT_lt g1 he
    have g2 := g1.pass
    split at h
    · rename_i hm
      have l2 := isT_lt g2 hm
      have g3 := g2.pass
      split at h
      · rename_i hk2
        cases h
        have l3 := g3.pass_lt (by omega)
        have q := numT_ok g3 hk2
        refine ⟨q.1, fun i => ?_⟩
        have := hi i
        have := hsg (decide (numS (hereT (passT (passT (passT r)))).text ≠ 0)) _ q.2
        simp only [bgS, List.length_append, Bool.false_eq_true, if_false, List.length_cons, List.length_nil]
        omega
      · cases h
    · split at h
      · rename_i hk2
        cases h
        have l3 := g2.pass_lt (by omega)
        have q := numT_ok g2 hk2
        refine ⟨q.1, fun i => ?_⟩
        have := hi i
        have := hsg false _ q.2
        simp only [bgS, List.length_append, Bool.false_eq_true, if_false, List.length_cons, List.length_nil]
        omega
      · cases h
  · cases h
    refine ⟨hd0, fun i => ?_⟩
    have := hi i
    simp only [bgS, List.length_append, if_true, List.length_cons, List.length_nil]
    omega
theorem decls_gd : ∀ (n : Nat) (bs bs2 : List Bg) (r r2 : List Tok), Good r → bs.length ≤ 8 → (∀ x ∈ bs, (dig L32 x.mag).length ≤ 32) → declsS n bs r = .ok (bs2, r2) → bs2.length ≤ 8 ∧ (∀ x ∈ bs2, (dig L32 x.mag).length ≤ 32) ∧ (bgsS 0 bs2).length + 1201 * r2.length ≤ (bgsS 0 bs).length + 1201 * r.length
  | 0, bs, bs2, r, r2, g, hb, hm, h => by simp [declsS] at h
  | n + 1, bs, bs2, r, r2, g, hb, hm, h => by
    have step : ∀ {b : Bg} {r' r3 : List Tok}, Good r' → r'.length ≤ r.length → declareS (bs.map Bg.name) r' = .ok (b, r3) → declsS n (bs ++ [b]) r3 = .ok (bs2, r2) → bs2.length ≤ 8 ∧ (∀ x ∈ bs2, (dig L32 x.mag).length ≤ 32) ∧ (bgsS 0 bs2).length + 1201 * r2.length ≤ (bgsS 0 bs).length + 1201 * r.length := by
      intro b r' r3 g' hl' h1 h2
      have q := decl_len g' h1
      have e := decl_gd g' h1
      rw [List.length_map] at q
      have ih := decls_gd n (bs ++ [b]) bs2 r3 r2 q.1 (by simp only [List.length_append, List.length_cons, List.length_nil]; omega) (by
        intro x hx
        rcases List.mem_append.1 hx with hx | hx
        · exact hm x hx
        · simp only [List.mem_singleton] at hx
          subst hx
          exact e.1) h2
      refine ⟨ih.1, ih.2.1, ?_⟩
      have h3 := ih.2.2
      rw [bgsS_app, List.length_append] at h3
      have h4 := e.2 (0 + bs.length)
      simp only [bgsS, List.append_nil] at h3
      omega
    cases h59 : isT [59] r with
    | true =>
      simp only [declsS] at h
      rw [if_pos h59] at h
      cases h
      have := g.pass_le
      exact ⟨hb, hm, by omega⟩
    | false =>
      rw [declsS_step _ _ _ h59] at h
      by_cases hbs : bs = []
      · rw [if_pos hbs] at h
        simp only at h
        split at h
        · cases h
        · rename_i b r3 h1
          exact step g (Nat.le_refl _) h1 h
      · rw [if_neg hbs] at h
        split at h
        · cases h
        · rename_i r' h1
          have q1 := must_len g h1
          split at h
          · cases h
          · rename_i b r3 h2
            exact step q1.1 (by omega) h2 h
theorem prog_gd {n : Nat} {r : List Tok} {g : Pg} (hg : Good r) (h : progS n r = .ok g) : g.begins.length ≤ 8 ∧ (∀ x ∈ g.begins, (dig L32 x.mag).length ≤ 32) ∧ g.body.okS ∧ g.body.sz ≤ 3 * r.length + 1 ∧ (pgS g).length ≤ 1201 * r.length + 6 := by
  unfold progS at h
  split at h
  · cases h
  · rename_i r1 h1
    have q1 := must_len hg h1
    split at h
    · cases h
    · rename_i bs r2 h2
      have q2 := decls_len _ _ _ _ _ q1.1 h2
      have e2 := decls_gd _ _ _ _ _ q1.1 (by simp) (by simp) h2
      split at h
      · cases h
      · rename_i l mk r3 h3
        have e3 := (st_gd _ n).row q2.1 (by omega) h3
        split at h
        · cases h
          refine ⟨e2.1, e2.2.1, e3.1, (show l.sz ≤ 3 * r.length + 1 by have := e3.2.1; omega), ?_⟩
          have a1 := e3.2.2 [] (by simp)
          have a2 := e2.2.2
          simp only [bgsS, List.length_nil] at a2
          simp only [pgS, dcS, vars_, List.length_append, List.length_cons, List.length_nil]
          omega
        · cases h
theorem parse_gd {s : List UInt8} {g : Pg} (h : parseS s = .ok g) : g.begins.length ≤ 8 ∧ (∀ x ∈ g.begins, (dig L32 x.mag).length ≤ 32) ∧ g.body.okS ∧ g.body.sz * 2 ≤ 100000 ∧ (pgS g).length ≤ 100000000 := by
  unfold parseS at h
  split at h
  · cases h
  · rename_i toks hs
    obtain ⟨gd, hl⟩ := scanS_good hs
    have q := prog_gd gd h
    exact ⟨q.1, q.2.1, q.2.2.1, by have := q.2.2.2.1; omega, by have := q.2.2.2.2; omega⟩
/-- Print of what Parse has read -/
theorem Print_read {s : List UInt8} {w : World} {B P : Nat} {g : Pg} (hs : parseS s = .ok g) (h : PgIs w B P g) :
    Calls Tryz.prog 16 #[.pointer (some ⟨P, 0, none⟩)] w fun e w' => e = .returned (.string ⟨(pgS g).toArray⟩) ∧ Fr No w w' :=
  have q := parse_gd hs
  Print_calls h q.2.1 q.2.2.1 q.2.2.2.1 q.2.2.2.2 (by omega)
end Go.Proofs.YtlklijpjacmgpaaGreatDoor
