/- The program's limbs: short. -/
import Derived.Test.YtklhfbgmadblcaaDoorA7
namespace Go.Proofs.YtklhfbgmadblcaaDoor
open Go.RowKit
set_option linter.unusedVariables false
set_option linter.unusedSimpArgs false

set_option maxHeartbeats 1000000 in
theorem short_calls (B : Nat) (v : Value) (xs : List Nat) (w : World) (hl : xs.length ≤ 1000000000) (h : w.ownsRow B 52 1 v xs.length (u32s xs)) :
    Calls Tryd.prog 69 #[v] w fun e w' => ∃ a c, e = .returned (.slice a (trimT xs).length c) ∧ w'.ownsRow B 52 1 (.slice a (trimT xs).length c) (trimT xs).length (u32s (trimT xs)) ∧ (Value.slice a (trimT xs).length c).ownBlock = v.ownBlock ∧ Qd w w' := by
  rcases own_cases h with ⟨rfl, hn, hx⟩ | ⟨g, cap, rfl, hB, hg, hcap⟩
  · have hxs : xs = [] := by simpa [u32s] using hx
    subst hxs
    go_enter Tryd.func69, Tryd.ntmps69
    go_wp2_with fail
    go_loopg [3] 0 (fun r x3 wr => wr = w ∧ x3 = .int .i64 0)
    case atStart => exact ⟨rfl, rfl⟩
    case round =>
      obtain ⟨rfl, rfl⟩ := hrel
      go_wp2_with fail
      go_ret
      exact ⟨_, _, rfl, h, rfl, Qd.refl _⟩
  · go_enter Tryd.func69, Tryd.ntmps69
    go_wp2_with fail
    go_loopg [3] xs.length (fun r x3 wr => wr = w ∧ ∃ k : Nat, r = k ∧ k ≤ xs.length ∧ x3 = .int .i64 k ∧ ∀ j, k ≤ j → j < xs.length → xs[j]? = some 0)
    case atStart => exact ⟨rfl, xs.length, rfl, Nat.le_refl _, rfl, fun j h1 h2 => by omega⟩
    case round =>
      obtain ⟨rfl, k, hr, hk, rfl, hz⟩ := hrel
      have HR := Lib.hid hr
      have HZ := Lib.hid hz
      clear hr hz
      cases k with
      | zero =>
        go_wp2_with fail
        go_ret
        have ht := trimT_at (Nat.zero_le _) HZ.out (Or.inl rfl)
        have ho := own_take h (Nat.zero_le xs.length)
        rw [ht]
        exact ⟨_, _, rfl, by simpa [u32s] using ho, rfl, Qd.refl _⟩
      | succ m =>
        have hm : xs[m]? = some (xs[m]'(by omega)) := List.getElem?_eq_getElem (by omega)
        have hc := own_cell h (u32s_get hm)
        have HM := Lib.hid hm
        clear hm
        by_cases h0 : xs[m]'(by omega) = 0
        · go_wp2_with fail
          go_roundg m
          case measure => have := HR.out; omega
          case rel => exact ⟨rfl, m, rfl, by omega, rfl, fun j h1 h2 => by
            by_cases e : j = m
            · subst e; rw [HM.out, h0]
            · exact HZ.out j (by omega) h2⟩
        · go_wp2_with fail
          go_ret
          have ht := trimT_at (k := m + 1) (by omega) HZ.out (Or.inr ⟨_, HM.out, h0⟩)
          have ho := own_take h (k := m + 1) (by omega)
          rw [ht, List.length_take, Nat.min_eq_left (by omega), ← u32s_take]
          exact ⟨_, _, rfl, by simpa using ho, rfl, Qd.refl _⟩

end Go.Proofs.YtklhfbgmadblcaaDoor
