/- What is read can be printed: kinds and sizes. -/
import Derived.Test.YtlklijpjacmgpaaGreatDoorMB
import Derived.Test.YtlklijpjacmgpaaGreatDoorLL
namespace Go.Proofs.YtlklijpjacmgpaaGreatDoor
open Go
set_option linter.unusedVariables false
set_option linter.unusedSimpArgs false
set_option exponentiation.threshold 5000

theorem here_len {r : List Tok} (g : Good r) : (hereT r).text.length ≤ 1024 := by
  cases g with
  | last p => simp [hereT]
  | cons a1 a2 a3 a4 a5 => exact a4.1
theorem here_num {r : List Tok} (g : Good r) (h : (hereT r).kind = 2) : ∃ v, v < 2 ^ 1024 ∧ (hereT r).text = decText v := by
  cases g with
  | last p => simp [hereT] at h
  | cons a1 a2 a3 a4 a5 => exact a3 h
theorem numT_ok {r : List Tok} (g : Good r) (h : (hereT r).kind = 2) : (dig L32 (numS (hereT r).text)).length ≤ 32 ∧ (decText (numS (hereT r).text)).length ≤ 1024 := by
  obtain ⟨v, hv, e⟩ := here_num g h
  have h1 := num_len hv e
  exact ⟨h1, dec_len (Nat.lt_of_lt_of_le ((dig_len_le (by unfold L32; omega)).1 h1) (by unfold L32; decide +kernel)) (by omega)⟩
theorem brS_len (b : Bool) (s : List UInt8) : (brS b s).length ≤ s.length + 2 := by cases b <;> simp [brS]
structure ExGd (n : Nat) (nm : List (List UInt8)) : Prop where
  un : ∀ {o r a r1}, Good r → unS n nm o r = .ok (a, r1) → a.ok ∧ (wrS a).length + 7 + 1031 * r1.length ≤ 1031 * r.length
  pr : ∀ {o r a r1}, Good r → prodS n nm o r = .ok (a, r1) → a.ok ∧ (wrS a).length + 7 + 1031 * r1.length ≤ 1031 * r.length
  pl : ∀ {o a0 r a r1 c}, Good r → a0.ok → (wrS a0).length + 7 + 1031 * r.length ≤ c → prodL n nm o a0 r = .ok (a, r1) → a.ok ∧ (wrS a).length + 7 + 1031 * r1.length ≤ c
  su : ∀ {o r a r1}, Good r → sumS n nm o r = .ok (a, r1) → a.ok ∧ (wrS a).length + 7 + 1031 * r1.length ≤ 1031 * r.length
  sl : ∀ {o a0 r a r1 c}, Good r → a0.ok → (wrS a0).length + 7 + 1031 * r.length ≤ c → sumL n nm o a0 r = .ok (a, r1) → a.ok ∧ (wrS a).length + 7 + 1031 * r1.length ≤ c
theorem two_len (op : Nat) (l r : Nd) : (wrS (.two op l r)).length ≤ (wrS l).length + (wrS r).length + 7 := by
  have h1 := brS_len (!sumB op && addsB l) (wrS l)
  have h2 := brS_len (sumB op && addsB r || !sumB op && !singleB r) (wrS r)
  simp only [wrS, List.length_append, List.length_cons, List.length_nil]
  omega
theorem ex_gd (nm : List (List UInt8)) : ∀ n, ExGd n nm
  | 0 => ⟨fun _ h => by simp [unS] at h, fun _ h => by simp [prodS] at h, fun _ _ _ h => by simp [prodL] at h, fun _ h => by simp [sumS] at h, fun _ _ _ h => by simp [sumL] at h⟩
  | n + 1 => by
    have ih := ex_gd nm n
    have il := ex_len nm n
    refine ⟨?_, ?_, ?_, ?_, ?_⟩
    · intro o r a r1 g h
      simp only [unS] at h
      split at h
      · rename_i hm
        have hl := isT_lt g hm
        split at h
        · cases h
        · rename_i a' r' hu
          cases h
          have q := ih.un g.pass hu
          have := brS_len (!singleB a') (wrS a')
          exact ⟨q.1, by simp only [wrS, List.length_cons]; omega⟩
      · split at h
        · rename_i hk
          cases h
          have hl := g.pass_lt (by omega)
          have q := numT_ok g hk
          exact ⟨q.1, by simp only [wrS]; omega⟩
        · split at h
          · rename_i hn
            have hk := nameS_kind hn
            split at h
            · cases h
            · cases h
              have hl := g.pass_lt (by omega)
              have := here_len g
              exact ⟨trivial, by simp only [wrS]; omega⟩
          · split at h
            · cases h
            · rename_i hb
              have hk : (hereT r).kind = 3 := by
                by_cases e : (hereT r).kind = 3
                · exact e
                · exact absurd (fun h => e h.1) hb
              have hl := g.pass_lt (by omega)
              split at h
              · cases h
              · split at h
                · cases h
                · rename_i a' r' hs
                  have q := ih.su g.pass hs
                  have h2 := il.su g.pass hs
                  split at h
                  · rename_i hc
                    cases h
                    have := h2.1.pass_le
                    exact ⟨q.1, by omega⟩
                  · cases h
    · intro o r a r1 g h
      simp only [prodS] at h
      split at h
      · cases h
      · rename_i a' r' hu
        have h1 := il.un g hu
        have q := ih.un g hu
        exact ih.pl h1.1 q.1 q.2 h
    · intro o a0 r a r1 c g h0 hc h
      have key : ∀ {op : Nat} {x : List UInt8}, (op = 43 ∨ op = 45 ∨ op = 42 ∨ op = 47 ∨ op = 37) → isT x r = true → ∀ {b r'}, unS n nm o (passT r) = .ok (b, r') → prodL n nm o (.two op a0 b) r' = .ok (a, r1) → a.ok ∧ (wrS a).length + 7 + 1031 * r1.length ≤ c := by
        intro op x hop hm b r' hu h
        have hl := isT_lt g hm
        have h1 := il.un g.pass hu
        have q := ih.un g.pass hu
        have := two_len op a0 b
        exact ih.pl (a0 := .two op a0 b) h1.1 ⟨hop, h0, q.1⟩ (by omega) h
      simp only [prodL] at h
      split at h
      · rename_i hm
        split at h
        · cases h
        · rename_i b r' hu
          exact key (by omega) hm hu h
      · split at h
        · rename_i hm
          split at h
          · cases h
          · rename_i b r' hu
            exact key (by omega) hm hu h
        · split at h
          · rename_i hm
            split at h
            · cases h
            · rename_i b r' hu
              exact key (by omega) hm hu h
          · cases h
            exact ⟨h0, hc⟩
    · intro o r a r1 g h
      simp only [sumS] at h
      split at h
      · cases h
      · rename_i a' r' hu
        have h1 := il.pr g hu
        have q := ih.pr g hu
        exact ih.sl h1.1 q.1 q.2 h
    · intro o a0 r a r1 c g h0 hc h
      have key : ∀ {op : Nat} {x : List UInt8}, (op = 43 ∨ op = 45 ∨ op = 42 ∨ op = 47 ∨ op = 37) → isT x r = true → ∀ {b r'}, prodS n nm o (passT r) = .ok (b, r') → sumL n nm o (.two op a0 b) r' = .ok (a, r1) → a.ok ∧ (wrS a).length + 7 + 1031 * r1.length ≤ c := by
        intro op x hop hm b r' hu h
        have hl := isT_lt g hm
        have h1 := il.pr g.pass hu
        have q := ih.pr g.pass hu
        have := two_len op a0 b
        exact ih.sl (a0 := .two op a0 b) h1.1 ⟨hop, h0, q.1⟩ (by omega) h
      simp only [sumL] at h
      split at h
      · rename_i hm
        split at h
        · cases h
        · rename_i b r' hu
          exact key (by omega) hm hu h
      · split at h
        · rename_i hm
          split at h
          · cases h
          · rename_i b r' hu
            exact key (by omega) hm hu h
        · cases h
          exact ⟨h0, hc⟩
theorem sum_gd {n : Nat} {nm : List (List UInt8)} {o : Nat} {r : List Tok} {a : Nd} {r1 : List Tok} (g : Good r) (h : sumS n nm o r = .ok (a, r1)) : a.ok ∧ (wrS a).length + 7 + 1031 * r1.length ≤ 1031 * r.length := (ex_gd nm n).su g h
theorem cond_gd {n : Nat} {nm : List (List UInt8)} {o : Nat} {r : List Tok} {c : Nd × Nd × Bool} {r1 : List Tok} (g : Good r) (h : condS n nm o r = .ok (c, r1)) : c.1.ok ∧ c.2.1.ok ∧ (cdS c.1 c.2.1 c.2.2).length + 1031 * r1.length ≤ 1031 * r.length := by
  have hcd : ∀ (l r : Nd) (b : Bool), (cdS l r b).length ≤ (wrS l).length + (wrS r).length + 4 := by
    intro l r b
    cases b <;> simp [cdS] <;> omega
  simp only [condS] at h
  split at h
  · cases h
  · rename_i a r2 h1
    have q1 := sum_len g h1
    have e1 := sum_gd g h1
    split at h
    · rename_i hx
      have q2 := isT_lt q1.1 hx
      split at h
      · cases h
      · rename_i b r3 h2
        cases h
        have e2 := sum_gd q1.1.pass h2
        have := hcd a b true
        exact ⟨e1.1, e2.1, by simp only; omega⟩
    · split at h
      · cases h
      · rename_i r3 h2
        have q2 := must_len q1.1 h2
        split at h
        · cases h
        · rename_i b r4 h3
          cases h
          have e2 := sum_gd q2.1 h3
          have := hcd a b false
          exact ⟨e1.1, e2.1, by simp only; omega⟩
/-- a statement's size and print, against the tokens that it took -/
def SmB (s : Sm) (a b : Nat) : Prop := s.okS ∧ s.sz + 3 * b + 1 ≤ 3 * a ∧ ∀ ah : List UInt8, ah.length ≤ 32 → (prSm ah s).length + 1200 * b ≤ 1200 * a
theorem assign_gd {n : Nat} {nm : List (List UInt8)} {o : Nat} {r : List Tok} {s : Sm} {r1 : List Tok} (g : Good r) (hn : nameS r = true) (h : assignS n nm o r = .ok (s, r1)) : SmB s r.length r1.length := by
  have hp := g.pass_lt (by rw [nameS_kind hn]; decide)
  have hx := here_len g
  simp only [assignS] at h
  split at h
  · cases h
  · split at h
    · cases h
    · rename_i r2 h2
      have q2 := must_len g.pass h2
      split at h
      · rename_i hx
        have q3 := isT_lt q2.1 hx
        split at h
        · cases h
        · rename_i r3 h3
          cases h
          have q4 := must_len q2.1.pass h3
          refine ⟨trivial, by simp only [Sm.sz]; omega, fun ah hah => ?_⟩
          simp only [prSm, hdS, List.length_append, List.length_cons, List.length_nil]
          omega
      · split at h
        · cases h
        · rename_i a r3 h3
          have q3 := sum_len q2.1 h3
          have e3 := sum_gd q2.1 h3
          split at h
          · cases h
          · rename_i r4 h4
            cases h
            have q4 := must_len q3.1 h4
            refine ⟨e3.1, by simp only [Sm.sz]; omega, fun ah hah => ?_⟩
            simp only [prSm, hdS, List.length_append, List.length_cons, List.length_nil]
            omega
theorem mark_gd {p : Pl} {mk : List (List UInt8)} {r : List Tok} {s : Sm} {mk1 : List (List UInt8)} {r1 : List Tok} (g : Good r) (h : markS p mk r = .ok (s, mk1, r1)) : SmB s (r.length + 1) r1.length := by
  have hx := here_len g
  unfold markS at h
  split at h
  · cases h
  · rename_i hn
    have hk := nameS_kind (by simpa using hn)
    have hp := g.pass_lt (by omega)
    split at h
    · cases h
    · split at h
      · cases h
      · split at h
        · cases h
        · rename_i r2 h2
          cases h
          have q2 := must_len g.pass h2
          refine ⟨trivial, by simp only [Sm.sz]; omega, fun ah hah => ?_⟩
          simp only [prSm, hdS, List.length_append, List.length_cons, List.length_nil]
          omega
/-- statements' size and print -/
def RwB (l : Sms) (o a b : Nat) : Prop := l.okS ∧ l.sz + 3 * b ≤ 3 * a + 1 ∧ ∀ ah : List UInt8, ah.length ≤ 2 * o → (prSms ah l).length + 1200 * b ≤ 1200 * a
structure StGd (n : Nat) (nm : List (List UInt8)) : Prop where
  row : ∀ {mk o r l mk1 r1}, Good r → o ≤ 16 → rowS n nm mk o r = .ok (l, mk1, r1) → RwB l o r.length r1.length
  st : ∀ {mk o r s mk1 r1}, Good r → o ≤ 16 → stmtS n nm mk o r = .ok (some s, mk1, r1) → s.okS ∧ s.sz + 3 * r1.length + 1 ≤ 3 * r.length ∧ ∀ ah : List UInt8, ah.length ≤ 2 * o → (prSm ah s).length + 1200 * r1.length ≤ 1200 * r.length
  or : ∀ {mk o r l mk1 r1}, Good r → o ≤ 16 → orS n nm mk o r = .ok (l, mk1, r1) → l.okS ∧ l.sz + 3 * r1.length ≤ 3 * r.length + 1 ∧ ∀ ah : List UInt8, ah.length ≤ 2 * o → ∀ j, (prBl ah (j + 1) l).length + 1200 * r1.length ≤ 1200 * r.length
  bl : ∀ {mk o r l mk1 r1}, Good r → o ≤ 16 → blockS n nm mk o r = .ok (l, mk1, r1) → l.okS ∧ l.sz + 3 * r1.length + 6 ≤ 3 * r.length + 1 ∧ ∀ ah : List UInt8, ah.length ≤ 2 * o → (prSms (ah ++ [32, 32]) l).length + 1200 * r1.length + 2400 ≤ 1200 * r.length
theorem st_gd (nm : List (List UInt8)) : ∀ n, StGd n nm
  | 0 => ⟨fun _ _ h => by simp [rowS] at h, fun _ _ h => by simp [stmtS] at h, fun _ _ h => by simp [orS] at h, fun _ _ h => by simp [blockS] at h⟩
  | n + 1 => by
    have ih := st_gd nm n
    have il := st_len nm n
    refine ⟨?_, ?_, ?_, ?_⟩
    · intro mk o r l mk1 r1 g ho h
      simp only [rowS] at h
      split at h
      · cases h
        exact ⟨by simp only [Sms.okS], by simp only [Sms.sz]; omega, fun ah hah => by simp only [prSms, List.length_nil]; omega⟩
      · split at h
        · cases h
        · rename_i mk2 r2 h1
          cases h
          obtain ⟨rfl, rfl⟩ := il.no g h1
          exact ⟨by simp only [Sms.okS], by simp only [Sms.sz]; omega, fun ah hah => by simp only [prSms, List.length_nil]; omega⟩
        · rename_i s mk2 r2 h1
          have q1 := il.st g h1
          have e1 := ih.st g ho h1
          split at h
          · cases h
          · rename_i l2 mk3 r3 h2
            cases h
            have e2 := ih.row q1.1 ho h2
            refine ⟨by simp only [Sms.okS]; exact ⟨e1.1, e2.1⟩, by have := e2.2.1; have := e1.2.1; simp only [Sms.sz]; omega, fun ah hah => ?_⟩
            have a1 := e1.2.2 ah hah
            have a2 := e2.2.2 ah hah
            simp only [prSms, List.length_append]
            omega
    · intro mk o r s mk1 r1 g ho h
      have fin : ∀ {s : Sm} {r1 : List Tok}, SmB s r.length r1.length → s.okS ∧ s.sz + 3 * r1.length + 1 ≤ 3 * r.length ∧ ∀ ah : List UInt8, ah.length ≤ 2 * o → (prSm ah s).length + 1200 * r1.length ≤ 1200 * r.length :=
        fun hb => ⟨hb.1, hb.2.1, fun ah hah => hb.2.2 ah (by omega)⟩
      simp only [stmtS] at h
      split at h
      · rename_i hn
        split at h
        · cases h
        · rename_i s2 r2 h1
          cases h
          exact fin (assign_gd g hn h1)
      · split at h
        · rename_i hx
          have q0 := isT_lt g hx
          split at h
          · cases h
          · rename_i r2 h1
            cases h
            have q1 := must_len g.pass h1
            refine ⟨trivial, by simp only [Sm.sz]; omega, fun ah hah => ?_⟩
            simp only [prSm, skip_, List.length_append, List.length_cons, List.length_nil]
            omega
        · split at h
          · rename_i hx
            have q0 := isT_lt g hx
            split at h
            · cases h
            · rename_i r2 h1
              cases h
              have q1 := must_len g.pass h1
              refine ⟨trivial, by simp only [Sm.sz]; omega, fun ah hah => ?_⟩
              simp only [prSm, stop_, List.length_append, List.length_cons, List.length_nil]
              omega
          · split at h
            · rename_i hx
              have q0 := isT_lt g hx
              split at h
              · cases h
              · rename_i s2 mk2 r2 h1
                cases h
                have e1 := mark_gd g.pass h1
                exact fin ⟨e1.1, by have := e1.2.1; omega, fun ah hah => by have := e1.2.2 ah hah; omega⟩
            · split at h
              · rename_i hx
                have q0 := isT_lt g hx
                split at h
                · cases h
                · rename_i b mk2 r2 h1
                  have q1 := il.bl g.pass h1
                  have e1 := ih.bl g.pass ho h1
                  split at h
                  · cases h
                  · rename_i bs mk3 r3 h2
                    cases h
                    have e2 := ih.or q1.1 ho h2
                    refine ⟨by simp only [Sm.okS, Bls.okS]; exact ⟨e1.1, e2.1⟩, by have := e1.2.1; have := e2.2.1; simp only [Sm.sz, Bls.sz]; omega, fun ah hah => ?_⟩
                    have a1 := e1.2.2 ah hah
                    have a2 := e2.2.2 ah hah 0
                    simp only [Nat.zero_add] at a2
                    simp only [prSm, choose_, List.length_append, List.length_cons, List.length_nil]
                    omega
              · split at h
                · rename_i hx
                  have q0 := isT_lt g hx
                  split at h
                  · cases h
                  · rename_i b mk2 r2 h1
                    cases h
                    have e1 := ih.bl g.pass ho h1
                    refine ⟨by simp only [Sm.okS]; exact e1.1, by have := e1.2.1; simp only [Sm.sz]; omega, fun ah hah => ?_⟩
                    have a1 := e1.2.2 ah hah
                    simp only [prSm, loop_, List.length_append, List.length_cons, List.length_nil]
                    omega
                · split at h
                  · rename_i hx
                    have q0 := isT_lt g hx
                    split at h
                    · cases h
                    · rename_i c r2 h1
                      have q1 := cond_len g.pass h1
                      have e1 := cond_gd g.pass h1
                      split at h
                      · cases h
                      · rename_i b mk2 r3 h2
                        have q2 := il.bl q1.1 h2
                        have e2 := ih.bl q1.1 ho h2
                        split at h
                        · rename_i hx2
                          have q3 := isT_lt q2.1 hx2
                          split at h
                          · cases h
                          · rename_i b2 mk3 r4 h3
                            cases h
                            have e3 := ih.bl q2.1.pass ho h3
                            refine ⟨by simp only [Sm.okS, Els.okS]; exact ⟨e1.1, e1.2.1, e2.1, e3.1⟩, by have := e2.2.1; have := e3.2.1; simp only [Sm.sz, Els.sz]; omega, fun ah hah => ?_⟩
                            have a1 := e2.2.2 ah hah
                            have a2 := e3.2.2 ah hah
                            have a3 := e1.2.2
                            simp only [prSm, prEl, hdS, else_, List.length_append, List.length_cons, List.length_nil]
                            omega
                        · cases h
                          refine ⟨by simp only [Sm.okS, Els.okS]; exact ⟨e1.1, e1.2.1, e2.1, trivial⟩, by have := e2.2.1; simp only [Sm.sz, Els.sz]; omega, fun ah hah => ?_⟩
                          have a1 := e2.2.2 ah hah
                          have a3 := e1.2.2
                          simp only [prSm, prEl, hdS, List.length_append, List.length_cons, List.length_nil]
                          omega
                  · split at h
                    · rename_i hx
                      have q0 := isT_lt g hx
                      split at h
                      · cases h
                      · rename_i c r2 h1
                        have q1 := cond_len g.pass h1
                        have e1 := cond_gd g.pass h1
                        split at h
                        · cases h
                        · rename_i b mk2 r3 h2
                          cases h
                          have e2 := ih.bl q1.1 ho h2
                          refine ⟨by simp only [Sm.okS]; exact ⟨e1.1, e1.2.1, e2.1⟩, by have := e2.2.1; simp only [Sm.sz]; omega, fun ah hah => ?_⟩
                          have a1 := e2.2.2 ah hah
                          have a3 := e1.2.2
                          simp only [prSm, hdS, List.length_append, List.length_cons, List.length_nil]
                          omega
                    · cases h
    · intro mk o r l mk1 r1 g ho h
      simp only [orS] at h
      split at h
      · rename_i hx
        have q0 := isT_lt g hx
        split at h
        · cases h
        · rename_i b mk2 r2 h1
          have q1 := il.bl g.pass h1
          have e1 := ih.bl g.pass ho h1
          split at h
          · cases h
          · rename_i bs mk3 r3 h2
            cases h
            have e2 := ih.or q1.1 ho h2
            refine ⟨by simp only [Bls.okS]; exact ⟨e1.1, e2.1⟩, by have := e1.2.1; have := e2.2.1; simp only [Bls.sz]; omega, fun ah hah j => ?_⟩
            have a1 := e1.2.2 ah hah
            have a2 := e2.2.2 ah hah (j + 1)
            simp only [prBl, or_]
            rw [if_neg (by omega)]
            simp only [List.length_append, List.length_cons, List.length_nil]
            omega
      · cases h
        exact ⟨by simp only [Bls.okS], by simp only [Bls.sz]; omega, fun ah hah j => by simp only [prBl, List.length_nil]; omega⟩
    · intro mk o r l mk1 r1 g ho h
      simp only [blockS] at h
      split at h
      · cases h
      · rename_i r2 h1
        have q1 := into_len g h1
        have ho2 : o < 16 := by
          unfold intoS at h1
          split at h1
          · cases h1
          · split at h1
            · cases h1
            · omega
        split at h
        · cases h
        · rename_i l2 mk2 r3 h2
          have q2 := il.row q1.1 h2
          have e2 := ih.row q1.1 (by omega) h2
          split at h
          · cases h
          · rename_i r4 h3
            cases h
            have q3 := must_len q2.1 h3
            refine ⟨e2.1, by have := e2.2.1; omega, fun ah hah => ?_⟩
            have := e2.2.2 (ah ++ [32, 32]) (by simp only [List.length_append, List.length_cons, List.length_nil]; omega)
            omega
end Go.Proofs.YtlklijpjacmgpaaGreatDoor
