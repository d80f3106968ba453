/- Slices that a call owns. No program. -/
import Derived.Test.YtklhfbgmadblcaaDoorLib
import Derived.Deep.LoopGhost
namespace Go.Proofs.YtklhfbgmadblcaaDoor
open Go.RowKit
set_option linter.unusedVariables false
set_option linter.unusedSimpArgs false

theorem Fr.grown {S : Nat → Prop} {w0 w w' : World} {row : Option Nat} (h : Fr S w0 w) (g : w.grownBy w' row) (hr : ∀ k, row = some k → k < w0.heap.size → S k) : Fr S w0 w' :=
  ⟨g.os.trans h.os, g.tape.trans h.tape, g.output.trans h.output, Nat.le_trans h.size g.size,
    fun k hk hn => (g.block k (Nat.lt_of_lt_of_le hk h.size) (fun e => hn (hr k e.symm hk))).trans (h.block k hk hn)⟩
theorem own_fr {S : Nat → Prop} {w w' : World} {B : Nat} {e : TypeId} {size : Nat} {v : Value} {n : Nat} {xs : List Value} (h : w.ownsRow B e size v n xs) (f : Fr S w w') (hs : ∀ k, v.ownBlock = some k → ¬ S k) : w'.ownsRow B e size v n xs := by
  obtain ⟨h1, h2⟩ := h
  refine ⟨h1, ?_⟩
  rcases h2 with h2 | ⟨g, cap, cur, hv, hg, hh, r⟩
  · exact Or.inl h2
  · refine Or.inr ⟨g, cap, cur, hv, hg, ?_, r⟩
    rw [f.block g (Array.getElem?_eq_some_iff.1 hh).1 (hs g (by rw [hv]; rfl))]; exact hh
theorem own_mono {w : World} {B B' : Nat} {e : TypeId} {size : Nat} {v : Value} {n : Nat} {xs : List Value} (h : w.ownsRow B e size v n xs) (hb : B' ≤ B) : w.ownsRow B' e size v n xs := by
  obtain ⟨h1, h2⟩ := h
  refine ⟨h1, ?_⟩
  rcases h2 with h2 | ⟨g, cap, cur, hv, hg, r⟩
  · exact Or.inl h2
  · exact Or.inr ⟨g, cap, cur, hv, by omega, r⟩
theorem own_qd {w w' : World} {B : Nat} {e : TypeId} {size : Nat} {v : Value} {n : Nat} {xs : List Value} (h : w.ownsRow B e size v n xs) (q : Qd w w') : w'.ownsRow B e size v n xs := by
  obtain ⟨k, rfl⟩ := q; exact h
theorem own_take {w : World} {B : Nat} {e : TypeId} {size : Nat} {a : Option Addr} {n cap : Nat} {xs : List Value} (h : w.ownsRow B e size (.slice a n cap) n xs) {k : Nat} (hk : k ≤ n) : w.ownsRow B e size (.slice a k cap) k (xs.take (k * size)) := by
  obtain ⟨h1, h2⟩ := h
  have hle : k * size ≤ n * size := Nat.mul_le_mul_right size hk
  refine ⟨by rw [List.length_take, h1]; omega, ?_⟩
  rcases h2 with ⟨h2, h3⟩ | ⟨g, c, cur, hv, hg, hh, h4, h5, h6, h7⟩
  · simp only [Value.slice.injEq] at h2
    obtain ⟨rfl, rfl, rfl⟩ := h2
    exact Or.inl ⟨by simp; omega, by omega⟩
  · simp only [Value.slice.injEq] at hv
    obtain ⟨rfl, _, rfl⟩ := hv
    refine Or.inr ⟨g, cap, cur, rfl, hg, hh, by omega, h5, h6, ?_⟩
    rw [← h7, List.take_take, Nat.min_eq_left hle]
/-- nil, or at the head of a block -/
theorem own_cases {w : World} {B : Nat} {e : TypeId} {size : Nat} {v : Value} {n : Nat} {xs : List Value} (h : w.ownsRow B e size v n xs) :
    (v = .slice none 0 0 ∧ n = 0 ∧ xs = []) ∨ ∃ g cap, v = .slice (some ⟨g, 0, none⟩) n cap ∧ B ≤ g ∧ g < w.heap.size ∧ n ≤ cap := by
  obtain ⟨h1, h2⟩ := h
  rcases h2 with ⟨h2, h3⟩ | ⟨g, c, cur, hv, hg, hh, h4, h5, h6, h7⟩
  · subst h3; exact Or.inl ⟨h2, rfl, by simpa using h1⟩
  · exact Or.inr ⟨g, c, hv, hg, (Array.getElem?_eq_some_iff.1 hh).1, h4⟩
theorem own_form {w : World} {B : Nat} {e : TypeId} {size : Nat} {v : Value} {n : Nat} {xs : List Value} (h : w.ownsRow B e size v n xs) : ∃ a cap, v = .slice a n cap := by
  obtain ⟨h1, h2⟩ := h
  rcases h2 with ⟨h2, h3⟩ | ⟨g, c, cur, hv, hg, hh, h4, h5, h6, h7⟩
  · subst h3; exact ⟨_, _, h2⟩
  · exact ⟨_, _, hv⟩
theorem own_cell {w : World} {B : Nat} {e : TypeId} {size : Nat} {g n cap : Nat} {xs : List Value} (h : w.ownsRow B e size (.slice (some ⟨g, 0, none⟩) n cap) n xs) {j : Nat} {u : Value} (hj : xs[j]? = some u) : w.cell? ⟨g, j, none⟩ = some u := by
  have := h.cells (g := g) rfl j u hj
  by_cases h0 : j = 0
  · subst h0; simpa [Addr.add] using this
  · simpa [Addr.add, h0] using this

theorem new_one (w : World) (v : Value) (t : TypeId) : ∀ j u, [v][j]? = some u → (w.alloc (.cells #[v] t (0, 0))).cell? ((⟨w.heap.size, 0, none⟩ : Addr).add j) = some u := by
  intro j u h
  cases j with
  | zero =>
    simp at h
    subst h
    exact (Blk.new w (.cells #[v] t (0, 0))).cell 0 v rfl
  | succ j => simp at h
theorem one_cell {v : Value} (h : v.oneCell' = true) : ∀ u ∈ [v], u.oneCell' = true := by
  intro u hu; simp at hu; subst hu; exact h
theorem apart_kept {w w' : World} {B e size n : Nat} {v : Value} {xs : List Value} (h : w.ownsRow B e size v n xs) {row : Option Nat} (hr : ∀ k, row = some k → k < B) (g : w.grownBy w' row) : w'.ownsRow B e size v n xs := by
  refine h.kept g ?_
  cases hv : v.ownBlock with
  | none => exact Or.inl rfl
  | some k =>
    refine Or.inr fun hc => ?_
    have h1 := (h.lt k hv).1
    have h2 := hr k hc.symm
    omega

end Go.Proofs.YtklhfbgmadblcaaDoor
