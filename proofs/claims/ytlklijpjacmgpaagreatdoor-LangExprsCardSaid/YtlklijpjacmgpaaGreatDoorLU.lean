/- No error has the code 0: plain lemmas over the parser's definitions. -/
import Derived.Test.YtlklijpjacmgpaaGreatDoorLL
namespace Go.Proofs.YtlklijpjacmgpaaGreatDoor
open Go
set_option linter.unusedVariables false
set_option linter.unusedSimpArgs false

structure ExNz (n : Nat) (nm : List (List UInt8)) : Prop where
  un : ∀ {o r c p}, Good r → 4 * r.length + 1 ≤ n → unS n nm o r = .error (c, p) → c ≠ 0
  pr : ∀ {o r c p}, Good r → 4 * r.length + 2 ≤ n → prodS n nm o r = .error (c, p) → c ≠ 0
  pl : ∀ {o a r c p}, Good r → 4 * r.length + 2 ≤ n → prodL n nm o a r = .error (c, p) → c ≠ 0
  su : ∀ {o r c p}, Good r → 4 * r.length + 3 ≤ n → sumS n nm o r = .error (c, p) → c ≠ 0
  sl : ∀ {o a r c p}, Good r → 4 * r.length + 3 ≤ n → sumL n nm o a r = .error (c, p) → c ≠ 0
theorem ex_nz (nm : List (List UInt8)) : ∀ n, ExNz n nm
  | 0 => ⟨fun _ h => by omega, fun _ h => by omega, fun _ h => by omega, fun _ h => by omega, fun _ h => by omega⟩
  | n + 1 => by
    have ih := ex_nz nm n
    have il := ex_len nm n
    refine ⟨?_, ?_, ?_, ?_, ?_⟩
    · intro o r c p g hn h
      simp only [unS] at h
      split at h
      · rename_i hm
        have hl := isT_lt g hm
        split at h
        · rename_i h1; cases h; exact ih.un g.pass (by omega) h1
        · cases h
      · split at h
        · cases h
        · split at h
          · split at h
            · cases h; decide
            · cases h
          · split at h
            · cases h; decide
            · rename_i hb
              have hk : (hereT r).kind = 3 := by
                by_cases e : (hereT r).kind = 3
                · exact e
                · exact absurd (fun h => e h.1) hb
              have hl := g.pass_lt (by omega)
              split at h
              · cases h; decide
              · split at h
                · rename_i h1; cases h; exact ih.su g.pass (by omega) h1
                · split at h
                  · cases h
                  · cases h; decide
    · intro o r c p g hn h
      simp only [prodS] at h
      split at h
      · rename_i h1; cases h; exact ih.un g (by omega) h1
      · rename_i a r1 h1
        have q := il.un g h1
        exact ih.pl q.1 (by omega) h
    · intro o a r c p g hn h
      simp only [prodL] at h
      split at h
      · rename_i hm
        have hl := isT_lt g hm
        split at h
        · rename_i h1; cases h; exact ih.un g.pass (by omega) h1
        · rename_i b r1 h1
          have q := il.un g.pass h1
          exact ih.pl q.1 (by omega) h
      · split at h
        · rename_i hm
          have hl := isT_lt g hm
          split at h
          · rename_i h1; cases h; exact ih.un g.pass (by omega) h1
          · rename_i b r1 h1
            have q := il.un g.pass h1
            exact ih.pl q.1 (by omega) h
        · split at h
          · rename_i hm
            have hl := isT_lt g hm
            split at h
            · rename_i h1; cases h; exact ih.un g.pass (by omega) h1
            · rename_i b r1 h1
              have q := il.un g.pass h1
              exact ih.pl q.1 (by omega) h
          · cases h
    · intro o r c p g hn h
      simp only [sumS] at h
      split at h
      · rename_i h1; cases h; exact ih.pr g (by omega) h1
      · rename_i a r1 h1
        have q := il.pr g h1
        exact ih.sl q.1 (by omega) h
    · intro o a r c p g hn h
      simp only [sumL] at h
      split at h
      · rename_i hm
        have hl := isT_lt g hm
        split at h
        · rename_i h1; cases h; exact ih.pr g.pass (by omega) h1
        · rename_i b r1 h1
          have q := il.pr g.pass h1
          exact ih.sl q.1 (by omega) h
      · split at h
        · rename_i hm
          have hl := isT_lt g hm
          split at h
          · rename_i h1; cases h; exact ih.pr g.pass (by omega) h1
          · rename_i b r1 h1
            have q := il.pr g.pass h1
            exact ih.sl q.1 (by omega) h
        · cases h
theorem must_nz {x : List UInt8} {r : List Tok} {c : Int} {p : Pl} (h : mustS x r = .error (c, p)) : c ≠ 0 := by
  unfold mustS at h
  split at h
  · cases h
  · cases h; decide
theorem into_nz {x : List UInt8} {o : Nat} {r : List Tok} {c : Int} {p : Pl} (h : intoS x o r = .error (c, p)) : c ≠ 0 := by
  unfold intoS at h
  split at h
  · cases h; decide
  · split at h
    · cases h; decide
    · cases h
theorem sum_nz {n : Nat} {nm : List (List UInt8)} {o : Nat} {r : List Tok} {c : Int} {p : Pl} (g : Good r) (hn : 4 * r.length + 3 ≤ n) (h : sumS n nm o r = .error (c, p)) : c ≠ 0 := (ex_nz nm n).su g hn h
theorem cond_nz {n : Nat} {nm : List (List UInt8)} {o : Nat} {r : List Tok} {c : Int} {p : Pl} (g : Good r) (hn : 4 * r.length + 3 ≤ n) (h : condS n nm o r = .error (c, p)) : c ≠ 0 := by
  simp only [condS] at h
  split at h
  · rename_i h1; cases h; exact sum_nz g hn h1
  · rename_i a r2 h1
    have q1 := sum_len g h1
    split at h
    · rename_i hx
      have q2 := isT_lt q1.1 hx
      split at h
      · rename_i h2; cases h; exact sum_nz q1.1.pass (by omega) h2
      · cases h
    · split at h
      · rename_i h2; cases h; exact must_nz h2
      · rename_i r3 h2
        have q2 := must_len q1.1 h2
        split at h
        · rename_i h3; cases h; exact sum_nz q2.1 (by omega) h3
        · cases h
theorem assign_nz {n : Nat} {nm : List (List UInt8)} {o : Nat} {r : List Tok} {c : Int} {p : Pl} (g : Good r) (hn : 4 * r.length + 3 ≤ n) (h : assignS n nm o r = .error (c, p)) : c ≠ 0 := by
  have hp := g.pass_le
  simp only [assignS] at h
  split at h
  · cases h; decide
  · split at h
    · rename_i h2; cases h; exact must_nz h2
    · rename_i r2 h2
      have q2 := must_len g.pass h2
      split at h
      · split at h
        · rename_i h3; cases h; exact must_nz h3
        · cases h
      · split at h
        · rename_i h3; cases h; exact sum_nz q2.1 (by omega) h3
        · rename_i a r3 h3
          split at h
          · rename_i h4; cases h; exact must_nz h4
          · cases h
theorem mark_nz {p0 : Pl} {mk : List (List UInt8)} {r : List Tok} {c : Int} {p : Pl} (h : markS p0 mk r = .error (c, p)) : c ≠ 0 := by
  unfold markS at h
  split at h
  · cases h; decide
  · split at h
    · cases h; decide
    · split at h
      · cases h; decide
      · split at h
        · rename_i h1; cases h; exact must_nz h1
        · cases h
structure StNz (n : Nat) (nm : List (List UInt8)) : Prop where
  row : ∀ {mk o r c p}, Good r → 8 * r.length + 4 ≤ n → rowS n nm mk o r = .error (c, p) → c ≠ 0
  st : ∀ {mk o r c p}, Good r → 8 * r.length + 3 ≤ n → stmtS n nm mk o r = .error (c, p) → c ≠ 0
  or : ∀ {mk o r c p}, Good r → 8 * r.length + 2 ≤ n → orS n nm mk o r = .error (c, p) → c ≠ 0
  bl : ∀ {mk o r c p}, Good r → 8 * r.length + 2 ≤ n → blockS n nm mk o r = .error (c, p) → c ≠ 0
theorem st_nz (nm : List (List UInt8)) : ∀ n, StNz n nm
  | 0 => ⟨fun _ h => by omega, fun _ h => by omega, fun _ h => by omega, fun _ h => by omega⟩
  | n + 1 => by
    have ih := st_nz nm n
    have il := st_len nm n
    refine ⟨?_, ?_, ?_, ?_⟩
    · intro mk o r c p g hn h
      simp only [rowS] at h
      split at h
      · cases h
      · split at h
        · rename_i h1; cases h; exact ih.st g (by omega) h1
        · cases h
        · rename_i s mk2 r2 h1
          have q1 := il.st g h1
          split at h
          · rename_i h2; cases h; exact ih.row q1.1 (by omega) h2
          · cases h
    · intro mk o r c p g hn h
      have hpos := g.pos
      simp only [stmtS] at h
      split at h
      · split at h
        · rename_i h1; cases h; exact assign_nz g (by omega) h1
        · cases h
      · split at h
        · split at h
          · rename_i h1; cases h; exact must_nz h1
          · cases h
        · split at h
          · split at h
            · rename_i h1; cases h; exact must_nz h1
            · cases h
          · split at h
            · split at h
              · rename_i h1; cases h; exact mark_nz h1
              · cases h
            · split at h
              · rename_i hx
                have q0 := isT_lt g hx
                split at h
                · rename_i h1; cases h; exact ih.bl g.pass (by omega) h1
                · rename_i b mk2 r2 h1
                  have q1 := il.bl g.pass h1
                  split at h
                  · rename_i h2; cases h; exact ih.or q1.1 (by omega) h2
                  · cases h
              · split at h
                · rename_i hx
                  have q0 := isT_lt g hx
                  split at h
                  · rename_i h1; cases h; exact ih.bl g.pass (by omega) h1
                  · cases h
                · split at h
                  · rename_i hx
                    have q0 := isT_lt g hx
                    split at h
                    · rename_i h1; cases h; exact cond_nz g.pass (by omega) h1
                    · rename_i c2 r2 h1
                      have q1 := cond_len g.pass h1
                      split at h
                      · rename_i h2; cases h; exact ih.bl q1.1 (by omega) h2
                      · rename_i b mk2 r3 h2
                        have q2 := il.bl q1.1 h2
                        split at h
                        · rename_i hx2
                          have q3 := isT_lt q2.1 hx2
                          split at h
                          · rename_i h3; cases h; exact ih.bl q2.1.pass (by omega) h3
                          · cases h
                        · cases h
                  · split at h
                    · rename_i hx
                      have q0 := isT_lt g hx
                      split at h
                      · rename_i h1; cases h; exact cond_nz g.pass (by omega) h1
                      · rename_i c2 r2 h1
                        have q1 := cond_len g.pass h1
                        split at h
                        · rename_i h2; cases h; exact ih.bl q1.1 (by omega) h2
                        · cases h
                    · cases h
    · intro mk o r c p g hn h
      simp only [orS] at h
      split at h
      · rename_i hx
        have q0 := isT_lt g hx
        split at h
        · rename_i h1; cases h; exact ih.bl g.pass (by omega) h1
        · rename_i b mk2 r2 h1
          have q1 := il.bl g.pass h1
          split at h
          · rename_i h2; cases h; exact ih.or q1.1 (by omega) h2
          · cases h
      · cases h
    · intro mk o r c p g hn h
      simp only [blockS] at h
      split at h
      · rename_i h1; cases h; exact into_nz h1
      · rename_i r1 h1
        have q1 := into_len g h1
        split at h
        · rename_i h2; cases h; exact ih.row q1.1 (by omega) h2
        · rename_i l mk1 r2 h2
          split at h
          · rename_i h3; cases h; exact must_nz h3
          · cases h
theorem decl_nz {nm : List (List UInt8)} {r : List Tok} {c : Int} {p : Pl} (h : declareS nm r = .error (c, p)) : c ≠ 0 := by
  unfold declareS at h
  split at h
  · cases h; decide
  split at h
  · cases h; decide
  split at h
  · cases h; decide
  split at h
  · cases h; decide
  split at h
  · split at h
    · split at h
      · cases h
      · cases h; decide
    · split at h
      · cases h
      · cases h; decide
  · cases h
end Go.Proofs.YtlklijpjacmgpaaGreatDoor
