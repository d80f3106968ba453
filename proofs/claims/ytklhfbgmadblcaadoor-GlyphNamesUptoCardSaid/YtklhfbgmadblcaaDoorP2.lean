/- Plain laws over scan: what is refused stays refused; blanks and comments ahead of a token; tokens built from texts. No program's walk. -/
import Derived.Test.YtklhfbgmadblcaaDoorP1
import Derived.Test.YtklhfbgmadblcaaDoorL2
namespace Go.Proofs.YtklhfbgmadblcaaDoor
open Go
set_option linter.unusedVariables false
set_option linter.unusedSimpArgs false

theorem skipped_app {cs : List Nat} {c : Nat} {r : List Nat} (h : skipC false cs = c :: r) (X : List Nat) : skipped (cs ++ X) = skipped cs := by
  have h1 := skipped_append cs
  have h2 := skipped_append (cs ++ X)
  rw [skipC_app cs false c r X h] at h2
  rw [h] at h1
  have : skipped (cs ++ X) ++ (c :: (r ++ X)) = skipped cs ++ (c :: (r ++ X)) := by
    rw [h2]
    conv => lhs; rw [← h1]
    simp
  exact List.append_cancel_right this

/-- what is refused stays refused -/
theorem scan_first : ∀ (n : Nat) (pre cs : List Nat) (e : Int) (p : Pl), cs.length < n → scan false n pre cs = .bad e p →
    ∀ (n' : Nat) (brk : Bool) (X : List Nat), (∀ z, X.head? = some z → z = 10) → X ≠ [] → cs.length < n' → scan brk n' pre (cs ++ X) = .bad e p
  | 0, pre, cs, e, p, hn, h, n', brk, X, hX, hX0, hn' => by omega
  | n + 1, pre, cs, e, p, hn, h, n', brk, X, hX, hX0, hn' => by
    obtain ⟨n', rfl⟩ : ∃ j, n' = j + 1 := ⟨n' - 1, by omega⟩
    obtain ⟨Z, rfl⟩ : ∃ Z, X = 10 :: Z := by
      cases X with
      | nil => exact absurd rfl hX0
      | cons z Z => exact ⟨Z, by rw [hX z rfl]⟩
    have hp10 : part 10 = false := by decide
    simp only [scan] at h
    split at h
    · simp at h
    · rename_i c r hs
      have hs' := skipC_app cs false c r (10 :: Z) hs
      have hk := skipped_app hs (10 :: Z)
      have hle := skipC_le cs false
      rw [hs] at hle
      simp at hle
      split at h
      · rename_i e1 ht
        have ht' := tk_bad_cut ht 10 Z hp10 (by omega)
        simp only [scan, hs', ht', hk]
        exact h
      · rename_i k x m ht
        have hm := tk_ok ht
        have hmle := hm.2.1
        simp at hmle
        have ht' : tk (c :: (r ++ 10 :: Z)) = .ok k x m := by
          have hz : ∀ z, ((c :: r).drop m ++ 10 :: Z).head? = some z → good k z := by
            intro z hz
            cases hd : (c :: r).drop m with
            | nil => rw [hd] at hz; simp at hz; subst hz; exact good_of hp10 k
            | cons a D => rw [hd] at hz; simp at hz; subst hz; exact tk_rest ht a (by rw [hd]; rfl)
          have := tk_cut ht ((c :: r).drop m ++ 10 :: Z) hz
          rw [← List.append_assoc, List.take_append_drop] at this
          exact this
        simp only [scan, hs', ht', hk]
        cases hR : scan false n (pre ++ skipped cs ++ (c :: r).take m) ((c :: r).drop m) with
        | ok l' => rw [hR] at h; cases h
        | bad e1 p1 =>
          rw [hR] at h
          simp only [Res.cons] at h
          have ih := scan_first n _ _ e1 p1 (by simp; omega) hR n' brk (10 :: Z) hX hX0 (by simp; omega)
          have e2 : (c :: (r ++ 10 :: Z)).take m = (c :: r).take m := by rw [← List.cons_append, List.take_append_of_le_length (by simpa using hmle)]
          have e3 : (c :: (r ++ 10 :: Z)).drop m = (c :: r).drop m ++ 10 :: Z := by rw [← List.cons_append, List.drop_append_of_le_length (by simpa using hmle)]
          rw [e2, e3, ih]
          simpa [Res.cons] using h

theorem txt_join {l m : List UInt8} {cs ds : List Nat} {t : List UInt8} (h : Txt l cs []) (k : Txt m ds t) : Txt (l ++ m) (cs ++ ds) t :=
  ⟨by rw [h.eq, k.eq]; simp, fun c hc => (List.mem_append.1 hc).elim (h.ok c) (k.ok c), k.stop⟩
theorem txt_ascii {b : UInt8} (hb : b.toNat < 128) : Txt [b] [b.toNat] [] := by
  refine ⟨by simp [enc, hb], fun c hc => ?_, rfl⟩
  simp at hc; subst hc; exact okc_iff.2 (by omega)

/-- what Scan refuses it refuses with a line end and anything behind it -/
theorem scanS_first {l m : List UInt8} (hlen : l.length + m.length + 1 ≤ 4096) {e : Int} {p : Pl} (h : scanS l = .bad e p) : scanS (l ++ 10 :: m) = .bad e p := by
  have T := txt_of l
  rw [scanS_eq T (by omega)] at h
  unfold scanOf at h
  by_cases ht : tlOf l = []
  · rw [ht] at T h
    obtain ⟨ds, t, T2⟩ := Txt.ex m
    have T3 : Txt (l ++ 10 :: m) (csOf l ++ 10 :: ds) t := by
      have := txt_join T (txt_join (txt_ascii (b := 10) (by decide)) T2)
      simpa using this
    rw [scanS_eq T3 (by simp; omega)]
    unfold scanOf
    exact scan_first _ _ _ _ _ (by omega) h _ _ (10 :: ds) (by simp) (by simp) (by simp; omega)
  · have T3 : Txt (l ++ 10 :: m) (csOf l) (tlOf l ++ 10 :: m) := ⟨by
      have e := T.eq
      generalize csOf l = a at *
      generalize tlOf l = b at *
      rw [e]; simp, T.ok, dec_stop ht T.stop (by decide) m⟩
    rw [scanS_eq T3 (by simp; omega)]
    unfold scanOf
    have e1 : (tlOf l).isEmpty = false := by cases h : tlOf l with | nil => exact absurd h ht | cons _ _ => rfl
    have e2 : (tlOf l ++ 10 :: m).isEmpty = false := by simp
    rw [e1] at h
    rw [e2]
    exact h
end Go.Proofs.YtklhfbgmadblcaaDoor
