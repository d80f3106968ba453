/- Name, the program's and the reference's. -/
import Derived.Test.YtklhfbgmadblcaaDoorP5
import Derived.Test.YtklhfbgmadblcaaDoorL2
import Derived.BigQuiet
import Derived.Deep.QuietTactic
namespace Go.Proofs.YtklhfbgmadblcaaDoor
open Go.RowKit
set_option linter.unusedVariables false
set_option linter.unusedSimpArgs false
attribute [local go_sem ↓] Go.wp_at_zero Go.wp_at_succ

/-- whether a text is a name -/
noncomputable def nameB (l : List UInt8) : Bool := match scanS l with
  | .ok [x, _] => decide (x.kind = 1) && decide (x.text = l)
  | _ => false

theorem nameB_not {l : List UInt8} (h : (scanS l).code ≠ 0 ∨ (scanS l).toks.length ≠ 2) : nameB l = false := by
  unfold nameB
  split
  · rename_i x y hx
    rw [hx] at h
    simp [Res.code, Res.toks] at h
  · rfl
theorem nameB_two {l : List UInt8} {x y : Tok} (h : (scanS l).toks = [x, y]) (h0 : (scanS l).code = 0) : nameB l = (decide (x.kind = 1) && decide (x.text = l)) := by
  unfold nameB
  cases hs : scanS l with
  | bad e p => rw [hs] at h; simp [Res.toks] at h
  | ok t => rw [hs] at h; simp only [Res.toks] at h; subst h; rfl

set_option maxRecDepth 100000 in
set_option maxHeartbeats 2000000 in
theorem Name_calls (s : ByteArray) (w : World) (hT : Tb w) (hs : s.size ≤ maxLen) : Calls Tryd.prog 27 #[.string s] w fun e w' => e = .returned (.bool (nameB s.data.toList)) ∧ Fr No w w' := by
  have hlen := scan_len s.data.toList
  obtain ⟨B, hB⟩ : ∃ B, nameB s.data.toList = B := ⟨_, rfl⟩
  rw [hB]
  go_enter Tryd.func27, Tryd.ntmps27
  go_wp2_with fail
  refine (Scan_any s w hT hs).mono ?_
  rintro e w1 ⟨a, c, rfl, ho, hf⟩
  obtain ⟨n, hn⟩ : ∃ n, (scanS s.data.toList).code = n := ⟨_, rfl⟩
  obtain ⟨t, ht⟩ : ∃ t, (scanS s.data.toList).toks = t := ⟨_, rfl⟩
  obtain ⟨pl, hpl⟩ : ∃ pl, (scanS s.data.toList).pl = pl := ⟨_, rfl⟩
  rw [ht] at hlen
  rw [hn, ht, hpl]
  unfold plA
  clear hpl
  rw [ht] at ho
  by_cases h0 : n = 0
  · by_cases h2 : t.length = 2
    · obtain ⟨x, y, rfl⟩ : ∃ x y, t = [x, y] := by
        match t, h2 with
        | [x, y], _ => exact ⟨x, y, rfl⟩
      have hBe := nameB_two ht (by rw [hn]; exact h0)
      rw [hB] at hBe
      subst h0
      rcases own_cases ho with ⟨_, hn, _⟩ | ⟨g, cap, hsl, hB', hg, hcap⟩
      · simp at hn
      simp only [Value.slice.injEq] at hsl
      obtain ⟨rfl, _, rfl⟩ := hsl
      obtain ⟨p0, p1, _, _, _, _⟩ := tok_at ho (i := 0) rfl
      have HB := Lib.hid hBe
      clear hBe hB hn ht ho h2 hlen
      simp only [List.length_cons, List.length_nil, Nat.zero_add, Nat.zero_mul] at *
      by_cases hk : x.kind = 1
      · obtain ⟨X, hX⟩ : ∃ X : ByteArray, (⟨x.text.toArray⟩ : ByteArray) = X := ⟨_, rfl⟩
        rw [hX] at p1
        by_cases hx : X = s
        · have e : B = true := by
            rw [HB.out, hk]
            have : x.text = s.data.toList := by rw [← hx, ← hX]
            simp [this]
          rw [hk] at p0
          rw [hx] at p1
          subst e
          clear hk hx hX
          go_wp2_with fail
          go_ret
          exact ⟨rfl, hf.alloc _⟩
        · have e : B = false := by
            rw [HB.out, hk]
            have : ¬ x.text = s.data.toList := fun e => hx (by rw [← hX, e])
            simp [this]
          have hxe : (X.toList == s.toList) = false := by
            rw [beq_eq_false_iff_ne]
            intro e2
            rw [ByteArray.toList_eq, ByteArray.toList_eq] at e2
            exact hx (ByteArray.ext (Array.toList_inj.1 e2))
          rw [hk] at p0
          subst e
          clear hk hX
          go_wp2_with fail
          go_ret
          exact ⟨rfl, hf.alloc _⟩
      · have e : B = false := by
          rw [HB.out]
          simp [hk]
        subst e
        go_wp2_with fail
        go_ret
        exact ⟨rfl, hf.alloc _⟩
    · have e : B = false := by
        rw [← hB]
        exact nameB_not (Or.inr (by rw [ht]; exact h2))
      have h2' : ((t.length : Int) == 2) = false := by rw [beq_eq_false_iff_ne]; omega
      subst e h0
      clear hB ht hn h2
      go_wp2_with fail
      go_ret
      exact ⟨rfl, hf.alloc _⟩
  · have e : B = false := by
      rw [← hB]
      exact nameB_not (Or.inl (by rw [hn]; exact h0))
    have h2' : (n == 0) = false := by rw [beq_eq_false_iff_ne]; exact h0
    subst e
    clear hB ht hn h0
    go_wp2_with fail
    go_ret
    exact ⟨rfl, hf.alloc _⟩
set_option maxRecDepth 100000 in
set_option maxHeartbeats 2000000 in
theorem rName_calls (s : ByteArray) (w : World) (hs : s.size ≤ maxLen) : Calls Tryd.prog 30 #[.string s] w fun e w' => e = .returned (.bool (nameB s.data.toList)) ∧ Fr No w w' := by
  have hlen := scan_len s.data.toList
  obtain ⟨B, hB⟩ : ∃ B, nameB s.data.toList = B := ⟨_, rfl⟩
  rw [hB]
  go_enter Tryd.func30, Tryd.ntmps30
  go_wp2_with fail
  refine (rScan_any s w hs).mono ?_
  rintro e w1 ⟨a, c, rfl, ho, hf⟩
  obtain ⟨n, hn⟩ : ∃ n, (scanS s.data.toList).code = n := ⟨_, rfl⟩
  obtain ⟨t, ht⟩ : ∃ t, (scanS s.data.toList).toks = t := ⟨_, rfl⟩
  obtain ⟨pl, hpl⟩ : ∃ pl, (scanS s.data.toList).pl = pl := ⟨_, rfl⟩
  rw [ht] at hlen
  rw [hn, ht, hpl]
  unfold plA
  clear hpl
  rw [ht] at ho
  by_cases h0 : n = 0
  · by_cases h2 : t.length = 2
    · obtain ⟨x, y, rfl⟩ : ∃ x y, t = [x, y] := by
        match t, h2 with
        | [x, y], _ => exact ⟨x, y, rfl⟩
      have hBe := nameB_two ht (by rw [hn]; exact h0)
      rw [hB] at hBe
      subst h0
      rcases own_cases ho with ⟨_, hn, _⟩ | ⟨g, cap, hsl, hB', hg, hcap⟩
      · simp at hn
      simp only [Value.slice.injEq] at hsl
      obtain ⟨rfl, _, rfl⟩ := hsl
      obtain ⟨p0, p1, _, _, _, _⟩ := tok_at ho (i := 0) rfl
      have HB := Lib.hid hBe
      clear hBe hB hn ht ho h2 hlen
      simp only [List.length_cons, List.length_nil, Nat.zero_add, Nat.zero_mul] at *
      by_cases hk : x.kind = 1
      · obtain ⟨X, hX⟩ : ∃ X : ByteArray, (⟨x.text.toArray⟩ : ByteArray) = X := ⟨_, rfl⟩
        rw [hX] at p1
        by_cases hx : X = s
        · have e : B = true := by
            rw [HB.out, hk]
            have : x.text = s.data.toList := by rw [← hx, ← hX]
            simp [this]
          rw [hk] at p0
          rw [hx] at p1
          subst e
          clear hk hx hX
          go_wp2_with fail
          go_ret
          exact ⟨rfl, hf.alloc _⟩
        · have e : B = false := by
            rw [HB.out, hk]
            have : ¬ x.text = s.data.toList := fun e => hx (by rw [← hX, e])
            simp [this]
          have hxe : (X.toList == s.toList) = false := by
            rw [beq_eq_false_iff_ne]
            intro e2
            rw [ByteArray.toList_eq, ByteArray.toList_eq] at e2
            exact hx (ByteArray.ext (Array.toList_inj.1 e2))
          rw [hk] at p0
          subst e
          clear hk hX
          go_wp2_with fail
          go_ret
          exact ⟨rfl, hf.alloc _⟩
      · have e : B = false := by
          rw [HB.out]
          simp [hk]
        subst e
        go_wp2_with fail
        go_ret
        exact ⟨rfl, hf.alloc _⟩
    · have e : B = false := by
        rw [← hB]
        exact nameB_not (Or.inr (by rw [ht]; exact h2))
      have h2' : ((t.length : Int) == 2) = false := by rw [beq_eq_false_iff_ne]; omega
      subst e h0
      clear hB ht hn h2
      go_wp2_with fail
      go_ret
      exact ⟨rfl, hf.alloc _⟩
  · have e : B = false := by
      rw [← hB]
      exact nameB_not (Or.inl (by rw [hn]; exact h0))
    have h2' : (n == 0) = false := by rw [beq_eq_false_iff_ne]; exact h0
    subst e
    clear hB ht hn h0
    go_wp2_with fail
    go_ret
    exact ⟨rfl, hf.alloc _⟩
end Go.Proofs.YtklhfbgmadblcaaDoor
