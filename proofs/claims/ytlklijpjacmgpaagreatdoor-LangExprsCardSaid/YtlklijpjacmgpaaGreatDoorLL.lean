/- What is left behind a statement is shorter: plain lemmas over the parser's definitions. -/
import Derived.Test.YtlklijpjacmgpaaGreatDoorLF
namespace Go.Proofs.YtlklijpjacmgpaaGreatDoor
open Go
set_option linter.unusedVariables false
set_option linter.unusedSimpArgs false

theorem must_len {x : List UInt8} {r r1 : List Tok} (g : Good r) (h : mustS x r = .ok r1) : Good r1 ∧ r1.length < r.length := by
  unfold mustS at h
  split at h
  · rename_i hx
    cases h
    exact ⟨g.pass, isT_lt g hx⟩
  · cases h
theorem into_len {x : List UInt8} {o : Nat} {r r1 : List Tok} (g : Good r) (h : intoS x o r = .ok r1) : Good r1 ∧ r1.length < r.length := by
  unfold intoS at h
  split at h
  · cases h
  · rename_i hk
    split at h
    · cases h
    · cases h
      have hk3 : (hereT r).kind = 3 := by
        by_cases e : (hereT r).kind = 3
        · exact e
        · exact absurd (fun h => e h.1) hk
      exact ⟨g.pass, g.pass_lt (by omega)⟩
theorem nameS_kind {r : List Tok} (h : nameS r = true) : (hereT r).kind = 1 := by
  simp only [nameS, Bool.and_eq_true, decide_eq_true_eq] at h
  exact h.1
theorem sum_len {n : Nat} {nm : List (List UInt8)} {o : Nat} {r : List Tok} {a : Nd} {r1 : List Tok} (g : Good r) (h : sumS n nm o r = .ok (a, r1)) : Good r1 ∧ r1.length < r.length := (ex_len nm n).su g h
theorem cond_len {n : Nat} {nm : List (List UInt8)} {o : Nat} {r : List Tok} {c : Nd × Nd × Bool} {r1 : List Tok} (g : Good r) (h : condS n nm o r = .ok (c, r1)) : Good r1 ∧ r1.length < r.length := by
  simp only [condS] at h
  split at h
  · cases h
  · rename_i a r2 h1
    have q1 := sum_len g h1
    split at h
    · rename_i hx
      have q2 := isT_lt q1.1 hx
      split at h
      · cases h
      · rename_i b r3 h2
        cases h
        have q3 := sum_len q1.1.pass h2
        exact ⟨q3.1, by omega⟩
    · split at h
      · cases h
      · rename_i r3 h2
        have q2 := must_len q1.1 h2
        split at h
        · cases h
        · rename_i b r4 h3
          cases h
          have q3 := sum_len q2.1 h3
          exact ⟨q3.1, by omega⟩
theorem assign_len {n : Nat} {nm : List (List UInt8)} {o : Nat} {r : List Tok} {s : Sm} {r1 : List Tok} (g : Good r) (h : assignS n nm o r = .ok (s, r1)) : Good r1 ∧ r1.length < r.length := by
  have hp := g.pass_le
  simp only [assignS] at h
  split at h
  · cases h
  · split at h
    · cases h
    · rename_i r2 h2
      have q2 := must_len g.pass h2
      split at h
      · rename_i hx
        have q3 := isT_lt q2.1 hx
        split at h
        · cases h
        · rename_i r3 h3
          cases h
          have q4 := must_len q2.1.pass h3
          exact ⟨q4.1, by omega⟩
      · split at h
        · cases h
        · rename_i a r3 h3
          have q3 := sum_len q2.1 h3
          split at h
          · cases h
          · rename_i r4 h4
            cases h
            have q4 := must_len q3.1 h4
            exact ⟨q4.1, by omega⟩
theorem mark_len {p : Pl} {mk : List (List UInt8)} {r : List Tok} {s : Sm} {mk1 : List (List UInt8)} {r1 : List Tok} (g : Good r) (h : markS p mk r = .ok (s, mk1, r1)) : Good r1 ∧ r1.length < r.length ∧ mk1.length + r1.length ≤ mk.length + r.length := by
  unfold markS at h
  split at h
  · cases h
  · rename_i hn
    have hk := nameS_kind (by simpa using hn)
    have hp := g.pass_lt (by omega)
    split at h
    · cases h
    · split at h
      · cases h
      · split at h
        · cases h
        · rename_i r2 h2
          cases h
          have q2 := must_len g.pass h2
          exact ⟨q2.1, by omega, by simp only [List.length_cons]; omega⟩

/-- what is read is shorter; no more marks than tokens -/
structure StLen (n : Nat) (nm : List (List UInt8)) : Prop where
  row : ∀ {mk o r l mk1 r1}, Good r → rowS n nm mk o r = .ok (l, mk1, r1) → Good r1 ∧ r1.length ≤ r.length ∧ mk1.length + r1.length ≤ mk.length + r.length
  st : ∀ {mk o r s mk1 r1}, Good r → stmtS n nm mk o r = .ok (some s, mk1, r1) → Good r1 ∧ r1.length < r.length ∧ mk1.length + r1.length ≤ mk.length + r.length
  no : ∀ {mk o r mk1 r1}, Good r → stmtS n nm mk o r = .ok (none, mk1, r1) → mk1 = mk ∧ r1 = r
  or : ∀ {mk o r l mk1 r1}, Good r → orS n nm mk o r = .ok (l, mk1, r1) → Good r1 ∧ r1.length ≤ r.length ∧ mk1.length + r1.length ≤ mk.length + r.length
  bl : ∀ {mk o r l mk1 r1}, Good r → blockS n nm mk o r = .ok (l, mk1, r1) → Good r1 ∧ r1.length < r.length ∧ mk1.length + r1.length ≤ mk.length + r.length
theorem st_len (nm : List (List UInt8)) : ∀ n, StLen n nm
  | 0 => ⟨fun _ h => by simp [rowS] at h, fun _ h => by simp [stmtS] at h, fun _ h => by simp [stmtS] at h, fun _ h => by simp [orS] at h, fun _ h => by simp [blockS] at h⟩
  | n + 1 => by
    have ih := st_len nm n
    refine ⟨?_, ?_, ?_, ?_, ?_⟩
    · intro mk o r l mk1 r1 g h
      simp only [rowS] at h
      split at h
      · cases h; exact ⟨g, by omega, by omega⟩
      · split at h
        · cases h
        · rename_i mk2 r2 h1
          cases h
          obtain ⟨rfl, rfl⟩ := ih.no g h1
          exact ⟨g, by omega, by omega⟩
        · rename_i s mk2 r2 h1
          have q1 := ih.st g h1
          split at h
          · cases h
          · rename_i l2 mk3 r3 h2
            cases h
            have q2 := ih.row q1.1 h2
            exact ⟨q2.1, by omega, by omega⟩
    · intro mk o r s mk1 r1 g h
      simp only [stmtS] at h
      split at h
      · rename_i hn
        split at h
        · cases h
        · rename_i s2 r2 h1
          cases h
          have q1 := assign_len g h1
          exact ⟨q1.1, q1.2, by omega⟩
      · split at h
        · rename_i hx
          have q0 := isT_lt g hx
          split at h
          · cases h
          · rename_i r2 h1
            cases h
            have q1 := must_len g.pass h1
            exact ⟨q1.1, by omega, by omega⟩
        · split at h
          · rename_i hx
            have q0 := isT_lt g hx
            split at h
            · cases h
            · rename_i r2 h1
              cases h
              have q1 := must_len g.pass h1
              exact ⟨q1.1, by omega, by omega⟩
          · split at h
            · rename_i hx
              have q0 := isT_lt g hx
              split at h
              · cases h
              · rename_i s2 mk2 r2 h1
                cases h
                have q1 := mark_len g.pass h1
                exact ⟨q1.1, by omega, by omega⟩
            · split at h
              · rename_i hx
                have q0 := isT_lt g hx
                split at h
                · cases h
                · rename_i b mk2 r2 h1
                  have q1 := ih.bl g.pass h1
                  split at h
                  · cases h
                  · rename_i bs mk3 r3 h2
                    cases h
                    have q2 := ih.or q1.1 h2
                    exact ⟨q2.1, by omega, by omega⟩
              · split at h
                · rename_i hx
                  have q0 := isT_lt g hx
                  split at h
                  · cases h
                  · rename_i b mk2 r2 h1
                    cases h
                    have q1 := ih.bl g.pass h1
                    exact ⟨q1.1, by omega, by omega⟩
                · split at h
                  · rename_i hx
                    have q0 := isT_lt g hx
                    split at h
                    · cases h
                    · rename_i c r2 h1
                      have q1 := cond_len g.pass h1
                      split at h
                      · cases h
                      · rename_i b mk2 r3 h2
                        have q2 := ih.bl q1.1 h2
                        split at h
                        · rename_i hx2
                          have q3 := isT_lt q2.1 hx2
                          split at h
                          · cases h
                          · rename_i b2 mk3 r4 h3
                            cases h
                            have q4 := ih.bl q2.1.pass h3
                            exact ⟨q4.1, by omega, by omega⟩
                        · cases h
                          exact ⟨q2.1, by omega, by omega⟩
                  · split at h
                    · rename_i hx
                      have q0 := isT_lt g hx
                      split at h
                      · cases h
                      · rename_i c r2 h1
                        have q1 := cond_len g.pass h1
                        split at h
                        · cases h
                        · rename_i b mk2 r3 h2
                          cases h
                          have q2 := ih.bl q1.1 h2
                          exact ⟨q2.1, by omega, by omega⟩
                    · cases h
    · intro mk o r mk1 r1 g h
      simp only [stmtS] at h
      repeat' split at h
      all_goals first | (cases h; done) | (cases h; exact ⟨rfl, rfl⟩)
    · intro mk o r l mk1 r1 g h
      simp only [orS] at h
      split at h
      · rename_i hx
        have q0 := isT_lt g hx
        split at h
        · cases h
        · rename_i b mk2 r2 h1
          have q1 := ih.bl g.pass h1
          split at h
          · cases h
          · rename_i bs mk3 r3 h2
            cases h
            have q2 := ih.or q1.1 h2
            exact ⟨q2.1, by omega, by omega⟩
      · cases h
        exact ⟨g, by omega, by omega⟩
    · intro mk o r l mk1 r1 g h
      simp only [blockS] at h
      split at h
      · cases h
      · rename_i r2 h1
        have q1 := into_len g h1
        split at h
        · cases h
        · rename_i l2 mk2 r3 h2
          have q2 := ih.row q1.1 h2
          split at h
          · cases h
          · rename_i r4 h3
            cases h
            have q3 := must_len q2.1 h3
            exact ⟨q3.1, by omega, by omega⟩
end Go.Proofs.YtlklijpjacmgpaaGreatDoor
